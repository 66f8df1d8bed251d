/- A part of the proofs over package chunk. -/
import Derived.Test.YtiaafndkbcpbdaaDoorCkC
namespace Go.Proofs.YtiaafndkbcpbdaaDoor
open Go.RowKit

set_option maxHeartbeats 400000 in
theorem pub_ok (s : ByteArray) (n : Int) (w : World) (hin : ∀ w, Calls Tryd.prog 40 #[.string s, .int .i64 16, .int .i64 8] w fun e w' => e = .returned (.tuple #[.int .u64 n, .nilIface]) ∧ Below w.heap.size w w') :
    Calls Tryd.prog 37 #[.string s, .int .i64 16, .int .i64 8] w fun e w' => e = .returned (.tuple #[.int .u64 n, .nilIface]) ∧ Below w.heap.size w w' := by
  have HI := Lib.hid hin
  clear hin
  go_enter Tryd.func37, Tryd.ntmps37
  go_wp2_with (go_at_call 40; refine (HI.out _).mono ?_; rintro e w' ⟨rfl, hb⟩)
  go_ret2
  exact ⟨rfl, hb⟩

set_option maxHeartbeats 400000 in
theorem pub_bad (s : ByteArray) (w : World) (hs : s.size < 100) (hE : ErrVar 1 w) (hin : ∀ w, Calls Tryd.prog 40 #[.string s, .int .i64 16, .int .i64 8] w fun e w' => e = .returned (.tuple #[.int .u64 0, .iface 76 (.int .i64 2)]) ∧ Below w.heap.size w w') :
    Calls Tryd.prog 37 #[.string s, .int .i64 16, .int .i64 8] w fun e w' => (∃ p, e = .returned (.tuple #[.int .u64 0, .iface 80 p])) ∧ Below w.heap.size w w' := by
  have HI := Lib.hid hin
  clear hin
  obtain ⟨ev, he, hev⟩ := hE
  have hg : 1 < w.heap.size := World.block_lt_of_cell? w _ he
  go_enter Tryd.func37, Tryd.ntmps37
  go_wp2_with fail
  refine (HI.out _).mono ?_
  rintro e w1 ⟨rfl, hb⟩
  have he1 : w1.cell? ⟨1, 0, none⟩ = some ev := (hb.cell hg).trans he
  clear he
  have HB := Lib.hid hb
  clear hb
  go_wp2_with fail
  refine (Tryd.strconv_toError_syntax _ _ _ _ ev _ (by omega) he1 hev).mono ?_
  rintro e w2 ⟨N, rfl, -, -, hb2⟩
  have HB2 := Lib.hid (HB.out.trans (hb2.mono HB.out.size))
  clear hb2
  go_wp2_with fail
  go_ret2
  exact ⟨⟨_, rfl⟩, HB2.out⟩

/-- a byte's worth as a hexadecimal digit; below 0: it is none -/
def hexV (c : Int) : Int := if 48 ≤ c ∧ c ≤ 57 then c - 48 else if 97 ≤ c ∧ c ≤ 102 then c - 87 else if 65 ≤ c ∧ c ≤ 70 then c - 55 else -1

def hexFact (n : Nat) : Bool :=
  let s := Utf8.encode n
  if hexV n < 0 then
    let b : Int := ((s.data.toList.getD 0 0).toNat : Int)
    decide (0 < s.size) && decide (s.size < 100) && !s.toList.isEmpty && (decide (b < 48) || decide (57 < b)) && (decide (Go.bits .or .u8 b 32 < 97) || decide (102 < Go.bits .or .u8 b 32)) && decide (Go.bits .or .u8 b 32 < 256)
  else s.data == #[UInt8.ofNat n] && (decide (48 ≤ n) && decide (n ≤ 57) && decide (hexV n = n - 48) ||
    decide (57 < n) && !((n : Int) == 95) && decide (97 ≤ Go.bits .or .u8 n 32) && decide (Go.bits .or .u8 n 32 ≤ 102) && decide (Go.bits .or .u8 n 32 - 87 = hexV n))
theorem hexFacts : ∀ n : Fin 256, hexFact n.val = true := by decide +kernel

set_option maxHeartbeats 400000 in
theorem hex_of (c : Int) (n : Int) (h0 : 0 ≤ c) (hc : c < 128) (w : World)
    (hin : Calls Tryd.prog 37 #[.string (Utf8.encode c), .int .i64 16, .int .i64 8] w fun e w' => e = .returned (.tuple #[.int .u64 n, .nilIface]) ∧ Below w.heap.size w w') (hn : 0 ≤ n ∧ n ≤ 15) :
    Calls Tryd.prog 28 #[.int .u8 c] w fun e w' => e = .returned (.tuple #[.int .i64 n, .bool true]) ∧ Below w.heap.size w w' := by
  have HI := Lib.hid hin
  clear hin
  obtain ⟨n0, n1⟩ := hn
  go_enter Tryd.func28, Tryd.ntmps28
  go_wp2_with fail
  refine HI.out.mono ?_
  rintro e w1 ⟨rfl, hb⟩
  have HB := Lib.hid hb
  clear hb
  go_wp2_with fail
  go_ret2
  exact ⟨ret2 (iEq rfl) rfl, HB.out⟩

set_option maxHeartbeats 400000 in
theorem hex_no (c : Int) (h0 : 0 ≤ c) (hc : c < 256) (w : World)
    (hin : Calls Tryd.prog 37 #[.string (Utf8.encode c), .int .i64 16, .int .i64 8] w fun e w' => (∃ p, e = .returned (.tuple #[.int .u64 0, .iface 80 p])) ∧ Below w.heap.size w w') :
    Calls Tryd.prog 28 #[.int .u8 c] w fun e w' => e = .returned (.tuple #[.int .i64 0, .bool false]) ∧ Below w.heap.size w w' := by
  have HI := Lib.hid hin
  clear hin
  go_enter Tryd.func28, Tryd.ntmps28
  go_wp2_with fail
  refine HI.out.mono ?_
  rintro e w1 ⟨⟨p, rfl⟩, hb⟩
  have HB := Lib.hid hb
  clear hb
  go_wp2_with fail
  go_ret2
  exact ⟨ret2 (iEq rfl) rfl, HB.out⟩

theorem hex_calls (c : Int) (h0 : 0 ≤ c) (h1 : c < 256) (w : World) (hE : ErrVar 1 w) :
    Calls Tryd.prog 28 #[.int .u8 c] w fun e w' => e = .returned (.tuple #[.int .i64 (if hexV c < 0 then 0 else hexV c), .bool (decide (0 ≤ hexV c))]) ∧ Below w.heap.size w w' := by
  obtain ⟨n, rfl⟩ := Int.eq_ofNat_of_zero_le h0
  have hf := hexFacts ⟨n, by omega⟩
  simp only [hexFact] at hf
  by_cases hv : hexV (n : Int) < 0
  · rw [if_pos hv, show decide (0 ≤ hexV (n : Int)) = false from by simp; omega]
    rw [if_pos hv] at hf
    simp only [Bool.and_eq_true, Bool.or_eq_true, decide_eq_true_eq, Bool.not_eq_true'] at hf
    obtain ⟨⟨⟨⟨⟨f1, f2⟩, f3⟩, f4⟩, f5⟩, f6⟩ := hf
    exact hex_no _ h0 h1 _ (pub_bad _ _ f2 hE fun w => pu_bad _ _ f1 rfl f3 f4 _ rfl _ rfl f5 f6 w)
  · rw [if_neg hv, show decide (0 ≤ hexV (n : Int)) = true from by simp; omega]
    rw [if_neg hv] at hf
    simp only [Bool.and_eq_true, Bool.or_eq_true, decide_eq_true_eq, Bool.not_eq_true', beq_iff_eq] at hf
    obtain ⟨f1, f2⟩ := hf
    have e1 : Utf8.encode (n : Int) = ⟨#[UInt8.ofNat n]⟩ := by
      cases h : Utf8.encode (n : Int) with
      | mk d => rw [h] at f1; simp only at f1; rw [f1]
    have e2 : (UInt8.ofNat n).toNat = n := by simp; omega
    have hr : 0 ≤ hexV (n : Int) ∧ hexV (n : Int) ≤ 15 := by
      refine ⟨by omega, ?_⟩
      unfold hexV at hv ⊢
      split
      · omega
      · split
        · omega
        · split <;> omega
    rcases f2 with ⟨⟨a1, a2⟩, a3⟩ | ⟨⟨⟨⟨a1, a2⟩, a3⟩, a4⟩, a5⟩
    · refine hex_of _ _ h0 (by omega) w (pub_ok _ _ w fun w => ?_) hr
      rw [e1]
      have := pu_digit (UInt8.ofNat n) (by omega) (by omega) w
      rw [e2] at this
      rw [a3]; exact this
    · have hn : (n : Int) < 128 := by
        unfold hexV at hv
        split at hv
        · omega
        · split at hv
          · omega
          · split at hv <;> omega
      refine hex_of _ _ h0 hn w (pub_ok _ _ w fun w => ?_) hr
      rw [e1]
      have := pu_letter (UInt8.ofNat n) (by omega) (by rw [e2]; exact a2) _ rfl (by rw [e2]; exact a3) (by rw [e2]; exact a4) w
      rw [e2, a5] at this
      exact this

end Go.Proofs.YtiaafndkbcpbdaaDoor
