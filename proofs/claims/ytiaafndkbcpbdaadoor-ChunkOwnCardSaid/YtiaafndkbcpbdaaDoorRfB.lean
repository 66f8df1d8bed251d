/- The reference of chapter 10: Whole. -/
import Derived.Test.YtiaafndkbcpbdaaDoorRfA
namespace Go.Proofs.YtiaafndkbcpbdaaDoor
open Go.RowKit

theorem outOf_cons (l : List UInt8) (x : { x : Nat × Nat // x.1 + x.2 ≤ l.length }) (xs : List { x : Nat × Nat // x.1 + x.2 ≤ l.length }) : outOf l (x :: xs) = putL ((l.drop x.1.1).take x.1.2) ++ outOf l xs := by simp [outOf]
theorem cidx_step (l : List UInt8) (n f i : Nat) (hn : 1 ≤ n) (h : n < (l.drop i).length) (hf : l.length ≤ i + f) : ∃ f', l.length ≤ (i + n) + f' ∧ outOf l (cidx n l.length f i) = putL ((l.drop i).take n) ++ outOf l (cidx n l.length f' (i + n)) := by
  rw [List.length_drop] at h
  cases f with
  | zero => omega
  | succ f =>
    refine ⟨f, by omega, ?_⟩
    rw [cidx, dif_pos (by omega), outOf_cons]
    dsimp only
    rw [Nat.min_eq_left (by omega)]
theorem cidx_end (l : List UInt8) (n f i : Nat) (hn : 1 ≤ n) (h : ¬ n < (l.drop i).length) (hf : l.length ≤ i + f) : outOf l (cidx n l.length f i) = putL (l.drop i) := by
  rw [List.length_drop] at h
  by_cases hi : i < l.length
  · cases f with
    | zero => omega
    | succ f =>
      rw [cidx, dif_pos hi, outOf_cons]
      dsimp only
      rw [Nat.min_eq_right (by omega), List.take_of_length_le (by simp)]
      have : cidx n l.length f (i + n) = [] := by
        cases f with
        | zero => rfl
        | succ f => rw [cidx, dif_neg (by omega)]
      rw [this]
      simp [outOf]
  · rw [List.drop_eq_nil_of_le (by omega)]
    have : cidx n l.length f i = [] := by
      cases f with
      | zero => rfl
      | succ f => rw [cidx, dif_neg hi]
    rw [this]
    simp [outOf, putL]

def RwRel (w : World) (l : List UInt8) (n : Nat) (r : List UInt8) (v6 : Value) (wr : World) : Prop :=
  ∃ i f out, r = l.drop i ∧ l.length ≤ i + f ∧ out ++ outOf l (cidx n l.length f i) ++ lastL = wholeL l n ∧ Ow wr w.heap.size v6 out ∧ Below w.heap.size w wr

set_option maxHeartbeats 1000000 in
theorem rWhole_err (w : World) (v : Value) (n : Int) (hn : n < 1) :
    Calls Tryd.prog 18 #[v, .int .i64 n] w fun e w' => e = .returned (.tuple #[.slice none 0 0, .int .i64 1]) ∧ w = w' := by
  go_enter Tryd.func18, Tryd.ntmps18
  go_wp2
  go_ret2
  exact ⟨rfl, rfl⟩

set_option maxHeartbeats 2000000 in
set_option maxRecDepth 100000 in
theorem rWhole_calls (w : World) (ao : Option Addr) (l : List UInt8) (c : Nat) (hl : l.length ≤ 1048576) (hcap : l.length ≤ c) (hb : Bs w ao l) (hao : ao = none → c = 0) (n : Nat) (hn : 1 ≤ n) (hn2 : n ≤ 9223372036854775807) :
    Calls Tryd.prog 18 #[.slice ao l.length c, .int .i64 n] w fun e w' => ∃ v', e = .returned (.tuple #[v', .int .i64 0]) ∧ Ow w' w.heap.size v' (wholeL l n) ∧ Below w.heap.size w w' := by
  have HWL : Hid ((wholeL l n).length ≤ 1099600000000) := Lib.hid (by
    have h3 := outOf_len l hl (cidx n l.length l.length 0)
    have h4 := cidx_len n l.length l.length 0
    have h5 : (cidx n l.length l.length 0).length * 1048592 ≤ 1048576 * 1048592 := Nat.mul_le_mul_right _ (by omega)
    unfold wholeL
    rw [List.length_append]
    have : lastL.length = 5 := rfl
    omega)
  have HR0 : Hid (RwRel w l n l (.slice none 0 0) w) := Lib.hid ⟨0, l.length, [], rfl, by omega, rfl, Ow.nil _ _, Below.refl _ _⟩
  have HB := Lib.hid hb
  have HC := Lib.hid hcap
  have HA := Lib.hid hao
  have HL := Lib.hid hl
  have ht1 : decide ((n : Int) < 1) = false := decide_eq_false (by omega)
  have HN : Hid (1 ≤ n) := Lib.hid hn
  clear hb hcap hao hl hn hn2
  go_enter Tryd.func18, Tryd.ntmps18
  go_wp2_with fail
  go_loopw [0, 6] (fun v0 v6 wr => ∃ a' c' r, v0 = .slice a' (List.length r) c' ∧ Bs w a' r ∧ r.length ≤ c' ∧ (a' = none → c' = 0) ∧ r.length ≤ l.length ∧ RwRel w l n r v6 wr) (fun v0 _ _ => match v0 with | .slice _ n _ => n | _ => 0)
  case atStart => exact ⟨ao, c, l, rfl, HB.out, HC.out, HA.out, Nat.le_refl _, HR0.out⟩
  case round =>
    obtain ⟨a', c', r, rfl, hbs, hrc, hrn, hrl, i, f, out, hr, hf, hout, ho, hbel⟩ := hrel
    clear HR0 HB HC HA
    have HOL : Hid (out.length ≤ 1099600000000) := Lib.hid (by have := HWL.out; rw [← hout, List.length_append, List.length_append] at this; omega)
    by_cases hbig : n < r.length
    · obtain ⟨f', hf', hstep⟩ := cidx_step l n f i HN.out (hr ▸ hbig) hf
      obtain ⟨p, hp⟩ : ∃ p, r.take n = p := ⟨_, rfl⟩
      obtain ⟨r', hr'⟩ : ∃ r', r.drop n = r' := ⟨_, rfl⟩
      have hpl : p.length = n := by rw [← hp, List.length_take]; omega
      have hrl' : r'.length = r.length - n := by rw [← hr', List.length_drop]
      have hsl1 := fun W => run_sliceTo W a' r.length c' n (by omega)
      have hsl2 := fun W => run_sliceFrom W a' r.length c' n (by omega)
      rw [← hrl'] at hsl2
      have hsl3 : ∀ W, (Instr.sliceAt 24 (.slice a' r.length c') none (some (.int .i64 n)) none).run Tryd.prog W = .ok (.slice a' p.length c') W := by rw [hpl]; exact hsl1
      clear hsl1
      have HP := Lib.hid (show Bs w a' p → True from fun _ => trivial)
      have HBP := Lib.hid (show Bs wr a' p from hp ▸ (hbs.below hbel).take n)
      have HBR := Lib.hid (show Bs w (fromA a' c' n) r' from hr' ▸ hbs.from c' n hrc)
      have HRC : Hid (r'.length ≤ c' - n ∧ r'.length ≤ l.length ∧ p.length ≤ 1048576 ∧ n ≤ r.length) := Lib.hid (by have := HL.out; omega)
      have HRN : Hid (fromA a' c' n = none → c' - n = 0) := Lib.hid (fun e => by have := hrn (fromA_none e); omega)
      have HAN := Lib.hid hrn
      have HO := Lib.hid ho
      have HBE := Lib.hid hbel
      have HNEW : Hid (∀ v wr', Ow wr' w.heap.size v (out ++ putL p) → Below w.heap.size w wr' → RwRel w l n r' v wr') := Lib.hid (fun v wr' h1 h2 => ⟨i + n, f', out ++ putL p, by rw [← hr', hr, List.drop_drop], hf', by rw [← hout, hstep, ← hr, hp]; simp only [List.append_assoc], h1, h2⟩)
      have HPL : Hid ((putL p).length ≤ p.length + 16) := Lib.hid (putL_len p (by have := HRC.out; omega))
      have HS1 : Hid (out.length + (putL p).length ≤ 70368744177664) := Lib.hid (by have := HOL.out; have := HPL.out; have := HRC.out; omega)
      have HLT : Hid (r'.length < r.length) := Lib.hid (by have := HN.out; omega)
      clear hbs hrc hrn hrl hr hf hout ho hbel hf' hstep hp hr' hpl hrl' HP
      go_wp2_with fail
      refine (rPut_calls wr a' p c' (by have := HRC.out; omega) HBP.out HAN.out).mono ?_
      rintro e w2 ⟨ov2, rfl, ho2, hb2⟩
      obtain ⟨a2, c2, rfl, hs2, -, -, hn2⟩ := ho2.bs'
      have HB2 := Lib.hid (HBE.out.trans (hb2.mono HBE.out.size))
      have HO := Lib.hid (HO.out.below hb2)
      have HS2 := Lib.hid hs2
      have HN2 := Lib.hid hn2
      clear ho2 hb2 hs2 hn2
      go_wp2_with (first
        | (at_builtin; refine wp_app rfl _ _ rfl w.heap.size u6 _ rfl HO.out a2 _ _ rfl (putL p) rfl HS2.out HN2.out HS1.out HB2.out.size ?_; intro v5 w5 hown hgr hal; have HB5 := Lib.hid (Below.own HB2.out HO.out hgr (Nat.le_refl _)); have HO5 := Lib.hid hown; have HG := Lib.hid hgr; clear hown hgr hal))
      go_roundw
      case rel =>
        exact ⟨_, _, r', rfl, HBR.out, HRC.out.1, HRN.out, HRC.out.2.1, HNEW.out _ _ HO5.out HB5.out⟩
      case measure => exact HLT.out
    · have hend := cidx_end l n f i HN.out (hr ▸ hbig) hf
      rw [hend, ← hr] at hout
      have HO := Lib.hid ho
      have HBE := Lib.hid hbel
      have HBR := Lib.hid (hbs.below hbel)
      have HAN := Lib.hid hrn
      have HOUT := Lib.hid hout
      have HRL : Hid (r.length ≤ 1048576) := Lib.hid (Nat.le_trans hrl HL.out)
      have HPL : Hid ((putL r).length ≤ r.length + 16) := Lib.hid (putL_len r (by have := HRL.out; omega))
      have HS1 : Hid (out.length + (putL r).length ≤ 70368744177664) := Lib.hid (by have := HOL.out; have := HPL.out; have := HRL.out; omega)
      have HS2 : Hid ((out ++ putL r).length + lastL.length ≤ 70368744177664) := Lib.hid (by rw [List.length_append]; have := HOL.out; have := HPL.out; have := HRL.out; have : lastL.length = 5 := rfl; omega)
      clear hbs hrc hrn hrl hr hf hout ho hbel hend
      go_wp2_with fail
      refine (rPut_calls wr a' r c' (by have := HRL.out; omega) HBR.out HAN.out).mono ?_
      rintro e w2 ⟨ov2, rfl, ho2, hb2⟩
      obtain ⟨a2, c2, rfl, hs2, -, -, hn2⟩ := ho2.bs'
      have HB2 := Lib.hid (HBE.out.trans (hb2.mono HBE.out.size))
      have HO := Lib.hid (HO.out.below hb2)
      have HSa := Lib.hid hs2
      have HNa := Lib.hid hn2
      clear ho2 hb2 hs2 hn2
      go_wp2_with (first
        | (at_builtin; refine wp_app rfl _ _ rfl w.heap.size u6 _ rfl HO.out a2 _ _ rfl (putL r) rfl HSa.out HNa.out HS1.out HB2.out.size ?_; intro v5 w5 hown hgr hal; have HB5 := Lib.hid (Below.own HB2.out HO.out hgr (Nat.le_refl _)); have HO5 := Lib.hid hown; clear hown hgr hal))
      refine (rLast_calls _).mono ?_
      rintro e w6 ⟨ov6, rfl, ho6, hb6⟩
      obtain ⟨a6, c6, rfl, hs6, -, -, hn6⟩ := ho6.bs'
      have HB6 := Lib.hid (HB5.out.trans (hb6.mono HB5.out.size))
      have HO6 := Lib.hid (HO5.out.below hb6)
      have HSb := Lib.hid hs6
      have HNb := Lib.hid hn6
      clear ho6 hb6 hs6 hn6
      go_wp2_with (first
        | (at_builtin; refine wp_app rfl _ _ rfl w.heap.size v5 _ rfl HO6.out a6 _ _ rfl lastL rfl HSb.out HNb.out HS2.out HB6.out.size ?_; intro v7 w7 hown hgr hal; have HB7 := Lib.hid (Below.own HB6.out HO6.out hgr (Nat.le_refl _)); have HO7 := Lib.hid hown; clear hown hgr hal))
      go_ret2
      exact ⟨_, rfl, by rw [← HOUT.out]; exact HO7.out, HB7.out⟩
end Go.Proofs.YtiaafndkbcpbdaaDoor
