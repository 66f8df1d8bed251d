/- The reference of chapter 10: what it puts. -/
import Derived.Test.YtiaafndkbcpbdaaDoorCkN
import Derived.Test.YtiaafndkbcpbdaaDoorBaseB
namespace Go.Proofs.YtiaafndkbcpbdaaDoor
open Go.RowKit

theorem ba_append (a b : List UInt8) : (⟨a.toArray⟩ : ByteArray) ++ ⟨b.toArray⟩ = ⟨(a ++ b).toArray⟩ := ByteArray.ext (by simp)
abbrev hex16 : ByteArray := { data := #[48, 49, 50, 51, 52, 53, 54, 55, 56, 57, 97, 98, 99, 100, 101, 102] }
theorem hex16_at (w : World) (d : Nat) (h : d < 16) : (Instr.sliceAt 9 (.string hex16) (some (.int .i64 d)) (some (.int .i64 ((d : Int) + 1))) none).run Tryd.prog w = .ok (.string ⟨#[hexDig d]⟩) w := by
  have hd : d = 0 ∨ d = 1 ∨ d = 2 ∨ d = 3 ∨ d = 4 ∨ d = 5 ∨ d = 6 ∨ d = 7 ∨ d = 8 ∨ d = 9 ∨ d = 10 ∨ d = 11 ∨ d = 12 ∨ d = 13 ∨ d = 14 ∨ d = 15 := by omega
  rcases hd with rfl | rfl | rfl | rfl | rfl | rfl | rfl | rfl | rfl | rfl | rfl | rfl | rfl | rfl | rfl | rfl
  all_goals (refine (?_ : _ = _); rfl)

set_option maxHeartbeats 400000 in
theorem rdigits_calls (m : Nat) : ∀ (n : Nat), n < 16 ^ (m + 1) → m ≤ 13 → ∀ w : World,
    Calls Tryd.prog 27 #[.int .i64 n] w fun e w' => e = .returned (.string ⟨(hexL n).toArray⟩) ∧ w = w' := by
  have low : ∀ (n : Nat), n < 16 → ∀ w : World, Calls Tryd.prog 27 #[.int .i64 n] w fun e w' => e = .returned (.string ⟨(hexL n).toArray⟩) ∧ w = w' := by
    intro n h16 w
    have t1 : decide ((n : Int) < 16) = true := decide_eq_true (by omega)
    have hr : Int.tmod (n : Int) 16 = (n : Int) := by rw [Int.tmod_eq_emod_of_nonneg (by omega)]; omega
    have hs := fun W => hex16_at W n h16
    have hw : wrap64 ((n : Int) + 1) = (n : Int) + 1 := IntWalk.wrap64_in _ (by omega)
    have HL := Lib.hid (hexL_last n h16)
    clear h16
    go_enter Tryd.func27, Tryd.ntmps27
    go_wp2_with fail
    go_ret
    exact ⟨by rw [HL.out]; rfl, rfl⟩
  induction m with
  | zero => exact fun n hn _ w => low n (by omega) w
  | succ m ih =>
    intro n hn hm w
    by_cases h16 : n < 16
    · exact low n h16 w
    · have t1 : decide ((n : Int) < 16) = false := decide_eq_false (by omega)
      have hq : n / 16 < 16 ^ (m + 1) := pow16_step n (m + 1) hn
      have hbound : n < 16 ^ 15 := Nat.lt_of_lt_of_le hn (Nat.pow_le_pow_right (by omega) (by omega))
      have e15 : (16 : Nat) ^ 15 = 1152921504606846976 := by decide
      have hr : Int.tmod (n : Int) 16 = ((n % 16 : Nat) : Int) := by rw [Int.tmod_eq_emod_of_nonneg (by omega)]; omega
      have hq2 : Int.tdiv (n : Int) 16 = ((n / 16 : Nat) : Int) := by rw [Int.tdiv_eq_ediv_of_nonneg (by omega)]; omega
      obtain ⟨d, hd⟩ : ∃ d, n % 16 = d := ⟨_, rfl⟩
      obtain ⟨q, hqq⟩ : ∃ q, n / 16 = q := ⟨_, rfl⟩
      have hd16 : d < 16 := by omega
      rw [hd] at hr
      rw [hqq] at hq2 hq
      have hs := fun W => hex16_at W d hd16
      have hw : wrap64 ((d : Int) + 1) = (d : Int) + 1 := IntWalk.wrap64_in _ (by omega)
      have hw2 : wrap64 (q : Int) = (q : Int) := IntWalk.wrap64_in _ (by omega)
      have HL := Lib.hid (show hexL n = hexL q ++ [hexDig d] from by rw [hexL_step n (by omega), hqq, hd])
      have hlf : ¬ 9223372036854775807 < (hexL q).length + 1 := by have := hexL_len q m hq; omega
      have HI := Lib.hid (ih q hq (by omega) w)
      clear hn h16 hd hqq hd16 hbound e15 hq ih low
      go_enter Tryd.func27, Tryd.ntmps27
      go_wp2_with fail
      refine HI.out.mono ?_
      rintro e w' ⟨rfl, rfl⟩
      go_wp2_with fail
      go_ret
      exact ⟨by rw [HL.out, ← ba_append]; rfl, rfl⟩

theorem rPut_empty (w : World) (ao : Option Addr) (c : Nat) : Calls Tryd.prog 20 #[.slice ao 0 c] w fun e w' => e = .returned (.slice none 0 0) ∧ w = w' := by
  go_enter Tryd.func20, Tryd.ntmps20
  go_wp2_with fail
  go_ret
  exact ⟨rfl, rfl⟩

set_option maxHeartbeats 1000000 in
set_option maxRecDepth 100000 in
theorem rPut_some (w : World) (ao : Option Addr) (l : List UInt8) (c : Nat) (hl0 : 0 < l.length) (hl : l.length ≤ 1099511627776) (hb : Bs w ao l) (hn : ao = none → c = 0) :
    Calls Tryd.prog 20 #[.slice ao l.length c] w fun e w' => ∃ v', e = .returned v' ∧ Ow w' w.heap.size v' (putL l) ∧ Below w.heap.size w w' := by
  have hp : putL l = hexL l.length ++ [13, 10] ++ l ++ [13, 10] := if_neg (by intro h; rw [h] at hl0; simp at hl0)
  have h16 : l.length < 16 ^ 12 := by
    have : (16 : Nat) ^ 12 = 281474976710656 := by decide
    omega
  obtain ⟨X, hX⟩ : ∃ X, hexL l.length ++ [13, 10] = X := ⟨_, rfl⟩
  have kc : ∀ W : World, (convert 9 24 (.string (⟨(hexL l.length).toArray⟩ ++ ⟨#[13, 10]⟩))).run Tryd.prog W = .ok (.slice (some ⟨W.heap.size, 0, none⟩) X.length (grownCap W X.length 0 5)) (Lib.bytesWorld W 5 ⟨X.toArray⟩) := by
    intro W
    rw [show (⟨(hexL l.length).toArray⟩ ++ ⟨#[13, 10]⟩ : ByteArray) = ⟨X.toArray⟩ from by rw [← hX]; exact ba_append _ [13, 10]]
    exact Lib.run_convert_string_bytes (P := Tryd.prog) W 9 24 5 ⟨X.toArray⟩ Tryd.underlying9 Tryd.underlying24 Tryd.underlying5
  have hXl : X.length ≤ 14 := by rw [← hX, List.length_append]; have := hexL_len _ 11 h16; simp; omega
  rw [hX] at hp
  have HW : Hid (Ow (Lib.bytesWorld w 5 ⟨X.toArray⟩) w.heap.size (.slice (some ⟨w.heap.size, 0, none⟩) X.length (grownCap w X.length 0 5)) X) := Lib.hid (Ow.bytes w ⟨X.toArray⟩ (by show X.length ≤ _; omega))
  have HBW : Hid (Below w.heap.size w (Lib.bytesWorld w 5 ⟨X.toArray⟩)) := Lib.hid (Lib.bytesWorld_below w 5 ⟨X.toArray⟩)
  have HBs : Hid (Bs (Lib.bytesWorld w 5 ⟨X.toArray⟩) ao l) := Lib.hid (hb.below HBW.out)
  have HS1 : Hid (X.length + l.length ≤ 70368744177664) := Lib.hid (by omega)
  have HS2 : Hid ((X ++ l).length + 2 ≤ 70368744177664) := Lib.hid (by rw [List.length_append]; omega)
  have HP := Lib.hid hp
  have H := Lib.hid (rdigits_calls 11 l.length h16 (by omega) w)
  have HB := Lib.hid hb
  have HX : Hid ((hexL l.length).length ≤ 12) := Lib.hid (hexL_len _ 11 h16)
  have hlf : ¬ 9223372036854775807 < (hexL l.length).length + 2 := by have := HX.out; omega
  have HL := Lib.hid hl
  have HN := Lib.hid hn
  have hne : ((l.length : Int) == 0) = false := beq_eq_false_iff_ne.2 (by omega)
  clear hp h16 hb hl hn hX hXl
  go_enter Tryd.func20, Tryd.ntmps20
  go_wp2_with fail
  refine H.out.mono ?_
  rintro e w1 ⟨rfl, rfl⟩
  clear H
  go_wp2_with (first
    | (at_builtin; refine wp_app rfl _ _ rfl w.heap.size _ _ rfl HW.out ao _ _ rfl l rfl HBs.out HN.out HS1.out HBW.out.size ?_; intro v2 w2 hown hgr _; have HB2 := Lib.hid (Below.own HBW.out HW.out hgr (Nat.le_refl _)); have HO2 := Lib.hid hown; have HO2a := Lib.hid (hown.below ((Below.refl w2.heap.size w2).alloc (Nat.le_refl _) (.cells #[bv 13, bv 10] 5))); have HB2a := Lib.hid ((HB2.out).trans (((Below.refl w2.heap.size w2).alloc (Nat.le_refl _) (.cells #[bv 13, bv 10] 5)).mono HB2.out.size)); have HBs2 : Hid (Bs (w2.alloc (.cells #[bv 13, bv 10] 5)) (some ⟨w2.heap.size, 0, none⟩) [13, 10]) := Lib.hid (Bs.of_block (heap_alloc_new w2 _)); clear hown hgr HW)
    | (at_builtin; refine wp_app rfl _ _ rfl w.heap.size v2 _ rfl HO2a.out (some ⟨w2.heap.size, 0, none⟩) _ _ rfl [13, 10] rfl HBs2.out nofun HS2.out HB2a.out.size ?_; intro v4 w4 hown hgr _; have HB4 := Lib.hid (Below.own HB2a.out HO2a.out hgr (Nat.le_refl _)); have HO4 := Lib.hid hown; clear hown hgr HO2a))
  go_ret
  exact ⟨_, rfl, by rw [HP.out]; exact HO4.out, HB4.out⟩

theorem rPut_calls (w : World) (ao : Option Addr) (l : List UInt8) (c : Nat) (hl : l.length ≤ 1099511627776) (hb : Bs w ao l) (hn : ao = none → c = 0) :
    Calls Tryd.prog 20 #[.slice ao l.length c] w fun e w' => ∃ v', e = .returned v' ∧ Ow w' w.heap.size v' (putL l) ∧ Below w.heap.size w w' := by
  by_cases h0 : l = []
  · subst h0
    exact (rPut_empty w ao c).mono fun e w' ⟨he, hw⟩ => by subst he; subst hw; exact ⟨_, rfl, Ow.nil _ _, Below.refl _ _⟩
  · exact rPut_some w ao l c (List.length_pos_iff.2 h0) hl hb hn

set_option maxHeartbeats 400000 in
set_option maxRecDepth 100000 in
theorem rLast_calls (w : World) : Calls Tryd.prog 22 #[] w fun e w' => ∃ v', e = .returned v' ∧ Ow w' w.heap.size v' lastL ∧ Below w.heap.size w w' := by
  have kc := fun (w : World) (C : Array Value) (n c : Nat) => Lib.run_convert_bytes_const (P := Tryd.prog) w 24 5 C n c Tryd.underlying24 Tryd.underlying5
  go_enter Tryd.func22, Tryd.ntmps22
  go_wp2
  go_ret
  refine ⟨_, rfl, ⟨rfl, .inr ⟨w.heap.size, 5, _, _, rfl, Nat.le_refl _, heap_alloc_new w _, fun j _ h2 h3 => ?_, Nat.le_refl _, by decide, rfl, rfl⟩⟩, (Below.refl _ _).alloc (Nat.le_refl _) _⟩
  have := h3.1
  omega
end Go.Proofs.YtiaafndkbcpbdaaDoor
