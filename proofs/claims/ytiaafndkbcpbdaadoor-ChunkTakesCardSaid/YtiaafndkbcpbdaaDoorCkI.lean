/- Package chunk: Put, Last, New, Done, walked. -/
import Derived.Test.YtiaafndkbcpbdaaDoorCkH
import Derived.Lib.SlBytesConst
namespace Go.Proofs.YtiaafndkbcpbdaaDoor
open Go.RowKit

set_option maxHeartbeats 400000 in
set_option maxRecDepth 100000 in
theorem AppendUint_calls (w : World) (hT : Tz16 w) (B : Nat) (hB : B ≤ w.heap.size) (v : Value) (out : List UInt8) (ho : Ow w B v out) (hout : out.length ≤ 35184372088832) (n0 : Nat) (hn : n0 < 16 ^ 12) :
    Calls Tryd.prog 39 #[v, .int .u64 n0, .int .i64 16] w fun e w' => ∃ v', e = .returned v' ∧ Ow w' B v' (out ++ hexL n0) ∧ Ch (fun k => B ≤ k) w w' := by
  have H := Lib.hid (formatBits_calls w hT B hB v out ho hout n0 hn)
  clear ho hout hn hB hT
  go_enter Tryd.func39, Tryd.ntmps39
  go_wp2_with fail
  refine H.out.mono ?_
  rintro e w' ⟨v', s, rfl, h1, h2⟩
  have H1 := Lib.hid h1
  have H2 := Lib.hid h2
  clear h1 h2
  go_wp2_with fail
  go_ret
  exact ⟨_, rfl, H1.out, H2.out⟩

set_option maxHeartbeats 400000 in
set_option maxRecDepth 100000 in
theorem iAppendInt_calls (w : World) (hT : Tz16 w) (B : Nat) (hB : B ≤ w.heap.size) (v : Value) (out : List UInt8) (ho : Ow w B v out) (hout : out.length ≤ 35184372088832) (n0 : Nat) (hn : n0 < 16 ^ 12) :
    Calls Tryd.prog 36 #[v, .int .i64 n0, .int .i64 16] w fun e w' => ∃ v', e = .returned v' ∧ Ow w' B v' (out ++ hexL n0) ∧ Ch (fun k => B ≤ k) w w' := by
  have H := Lib.hid (AppendUint_calls w hT B hB v out ho hout n0 hn)
  have h48 : (n0 : Int) < 281474976710656 := by
    have : (16 : Nat) ^ 12 = 281474976710656 := by decide
    omega
  have hwr : IntKind.u64.wrap (n0 : Int) = n0 := IntWalk.u64_in _ ⟨by omega, by omega⟩
  clear ho hout hn hB hT h48
  go_enter Tryd.func36, Tryd.ntmps36
  go_wp2_with fail
  refine H.out.mono ?_
  rintro e w' ⟨v', rfl, h1, h2⟩
  have H1 := Lib.hid h1
  have H2 := Lib.hid h2
  clear h1 h2
  go_wp2_with fail
  go_ret
  exact ⟨_, rfl, H1.out, H2.out⟩

set_option maxHeartbeats 400000 in
set_option maxRecDepth 100000 in
theorem AppendInt_calls (w : World) (hT : Tz16 w) (B : Nat) (hB : B ≤ w.heap.size) (v : Value) (out : List UInt8) (ho : Ow w B v out) (hout : out.length ≤ 35184372088832) (n0 : Nat) (hn : n0 < 16 ^ 12) :
    Calls Tryd.prog 26 #[v, .int .i64 n0, .int .i64 16] w fun e w' => ∃ v', e = .returned v' ∧ Ow w' B v' (out ++ hexL n0) ∧ Ch (fun k => B ≤ k) w w' := by
  have H := Lib.hid (iAppendInt_calls w hT B hB v out ho hout n0 hn)
  clear ho hout hn hB hT
  go_enter Tryd.func26, Tryd.ntmps26
  go_wp2_with fail
  refine H.out.mono ?_
  rintro e w' ⟨v', rfl, h1, h2⟩
  have H1 := Lib.hid h1
  have H2 := Lib.hid h2
  clear h1 h2
  go_wp2_with fail
  go_ret
  exact ⟨_, rfl, H1.out, H2.out⟩

/-- bytes as a chunk -/
def putL (l : List UInt8) : List UInt8 := if l = [] then [] else hexL l.length ++ [13, 10] ++ l ++ [13, 10]

theorem hexL_len (n : Nat) : ∀ k, n < 16 ^ (k + 1) → (hexL n).length ≤ k + 1 := by
  intro k
  induction k generalizing n with
  | zero => intro h; rw [hexL_last n (by simpa using h)]; simp
  | succ k ih =>
    intro h
    by_cases h16 : n < 16
    · rw [hexL_last n h16]; simp
    · rw [hexL_step n (by omega), List.length_append]
      have := ih (n / 16) (pow16_step n _ h)
      simp only [List.length_cons, List.length_nil]
      omega

set_option maxHeartbeats 400000 in
theorem Put_empty (w : World) (ao : Option Addr) (c : Nat) :
    Calls Tryd.prog 19 #[.slice ao 0 c] w fun e w' => e = .returned (.slice none 0 0) ∧ w = w' := by
  go_enter Tryd.func19, Tryd.ntmps19
  go_wp2_with fail
  go_ret
  exact ⟨rfl, rfl⟩

set_option maxHeartbeats 1000000 in
set_option maxRecDepth 100000 in
theorem Put_some (w : World) (hT : Tz16 w) (b off : Nat) (l : List UInt8) (c : Nat) (hl0 : 0 < l.length) (hl : l.length ≤ 1099511627776) (hb : Bs w (some ⟨b, off, none⟩) l) :
    Calls Tryd.prog 19 #[.slice (some ⟨b, off, none⟩) l.length c] w fun e w' => ∃ v', e = .returned v' ∧ Ow w' w.heap.size v' (putL l) ∧ Below w.heap.size w w' := by
  have hp : putL l = hexL l.length ++ [13, 10] ++ l ++ [13, 10] := if_neg (by intro h; rw [h] at hl0; simp at hl0)
  have h16 : l.length < 16 ^ 12 := by
    have : (16 : Nat) ^ 12 = 281474976710656 := by decide
    omega
  have HP := Lib.hid hp
  have H := Lib.hid (AppendInt_calls w hT w.heap.size (Nat.le_refl _) (.slice none 0 0) [] (Ow.nil _ _) (by simp) l.length h16)
  have HB := Lib.hid hb
  have HX : Hid ((hexL l.length).length ≤ 12) := Lib.hid (hexL_len _ 11 h16)
  have HL := Lib.hid hl
  have hne : ((l.length : Int) == 0) = false := beq_eq_false_iff_ne.2 (by omega)
  clear hp h16 hb hT hl
  go_enter Tryd.func19, Tryd.ntmps19
  go_wp2_with fail
  refine H.out.mono ?_
  rintro e w1 ⟨v1, rfl, ho1, hc1⟩
  have hb1 := Below.of_ge hc1
  have HO1 := Lib.hid ho1
  have HB1 := Lib.hid hb1
  clear ho1 hc1 hb1 H
  have HS1 : Hid (([] ++ hexL l.length).length + 2 ≤ 70368744177664) := Lib.hid (by have := HX.out; simp; omega)
  have HS2 : Hid (([] ++ hexL l.length ++ [13, 10]).length + l.length ≤ 70368744177664) := Lib.hid (by have := HX.out; have := HL.out; simp; omega)
  have HS3 : Hid (([] ++ hexL l.length ++ [13, 10] ++ l).length + 2 ≤ 70368744177664) := Lib.hid (by have := HX.out; have := HL.out; simp; omega)
  go_wp2_with (first
    | (at_builtin; refine wp_app_str rfl _ _ rfl w.heap.size v1 _ rfl HO1.out ⟨#[13, 10]⟩ rfl HS1.out HB1.out.size ?_; intro v2 w2 hown hgr _; have HB2 := Lib.hid (Below.own HB1.out HO1.out hgr (Nat.le_refl _)); have HO2 := Lib.hid hown; have HBs2 := Lib.hid (HB.out.below HB2.out); clear hown hgr HO1)
    | (at_builtin; refine wp_app rfl _ _ rfl w.heap.size v2 _ rfl HO2.out (some ⟨b, off, none⟩) _ _ rfl l rfl HBs2.out nofun HS2.out HB2.out.size ?_; intro v3 w3 hown hgr _; have HB3 := Lib.hid (Below.own HB2.out HO2.out hgr (Nat.le_refl _)); have HO3 := Lib.hid hown; clear hown hgr HO2)
    | (at_builtin; refine wp_app_str rfl _ _ rfl w.heap.size v3 _ rfl HO3.out ⟨#[13, 10]⟩ rfl HS3.out HB3.out.size ?_; intro v4 w4 hown hgr _; have HB4 := Lib.hid (Below.own HB3.out HO3.out hgr (Nat.le_refl _)); have HO4 := Lib.hid hown; clear hown hgr HO3))
  go_ret
  exact ⟨_, rfl, by rw [HP.out]; simpa using HO4.out, HB4.out⟩

theorem Put_calls (w : World) (hT : Tz16 w) (ao : Option Addr) (l : List UInt8) (c : Nat) (hl : l.length ≤ 1099511627776) (hb : Bs w ao l) :
    Calls Tryd.prog 19 #[.slice ao l.length c] w fun e w' => ∃ v', e = .returned v' ∧ Ow w' w.heap.size v' (putL l) ∧ Below w.heap.size w w' := by
  by_cases h0 : l = []
  · subst h0
    exact (Put_empty w ao c).mono fun e w' ⟨he, hw⟩ => by subst he; subst hw; exact ⟨_, rfl, Ow.nil _ _, Below.refl _ _⟩
  · have hp : 0 < l.length := List.length_pos_iff.2 h0
    obtain ⟨b, off, rfl⟩ := hb.some_of hp
    exact Put_some w hT b off l c hp hl hb

def lastL : List UInt8 := [48, 13, 10, 13, 10]
set_option maxHeartbeats 400000 in
set_option maxRecDepth 100000 in
theorem Last_calls (w : World) : Calls Tryd.prog 21 #[] w fun e w' => ∃ v', e = .returned v' ∧ Ow w' w.heap.size v' lastL ∧ Below w.heap.size w w' := by
  have kc := fun (w : World) (C : Array Value) (n c : Nat) => Lib.run_convert_bytes_const (P := Tryd.prog) w 24 5 C n c Tryd.underlying24 Tryd.underlying5
  go_enter Tryd.func21, Tryd.ntmps21
  go_wp2
  go_ret
  refine ⟨_, rfl, ⟨rfl, .inr ⟨w.heap.size, 5, _, _, rfl, Nat.le_refl _, heap_alloc_new w _, fun j _ h2 h3 => ?_, Nat.le_refl _, by decide, rfl, rfl⟩⟩, (Below.refl _ _).alloc (Nat.le_refl _) _⟩
  have := h3.1
  omega
set_option maxHeartbeats 400000 in
theorem New_calls (w : World) : Calls Tryd.prog 11 #[] w fun e w' => e = .returned (.pointer (some ⟨w.heap.size, 0, none⟩)) ∧ RdAt w' w.heap.size ⟨0, 0, 0, 0⟩ ∧ Below w.heap.size w w' := by
  go_enter Tryd.func11, Tryd.ntmps11
  go_wp2
  go_ret
  exact ⟨rfl, heap_alloc_new w _, (Below.refl _ _).alloc (Nat.le_refl _) _⟩
set_option maxHeartbeats 400000 in
theorem Done_calls (w : World) (g : Nat) (r : Rd) (h : RdAt w g r) : Calls Tryd.prog 15 #[.pointer (some ⟨g, 0, none⟩)] w fun e w' => e = .returned (.bool (r.st == 10)) ∧ w = w' := by
  have c0 := h.cells.1
  clear h
  go_enter Tryd.func15, Tryd.ntmps15
  go_wp2
  go_ret
  exact ⟨rfl, rfl⟩
end Go.Proofs.YtiaafndkbcpbdaaDoor
