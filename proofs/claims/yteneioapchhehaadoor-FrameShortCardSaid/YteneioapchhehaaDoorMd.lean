/- The reference of chapter 10, walked: Put, Whole. No condition of its own. -/
import Derived.Test.YteneioapchhehaaDoorMc
import Derived.Test.YteneioapchhehaaDoorMa
/- The reference of chapter 10: what it puts. -/
namespace Go.Proofs.YteneioapchhehaaDoor
open Go.RowKit

set_option maxRecDepth 100000 in
theorem ba_append (a b : List UInt8) : (⟨a.toArray⟩ : ByteArray) ++ ⟨b.toArray⟩ = ⟨(a ++ b).toArray⟩ := ByteArray.ext (by simp)
abbrev hex16 : ByteArray := { data := #[48, 49, 50, 51, 52, 53, 54, 55, 56, 57, 97, 98, 99, 100, 101, 102] }
set_option maxRecDepth 100000 in
theorem hex16_at (w : World) (d : Nat) (h : d < 16) : (Instr.sliceAt 9 (.string hex16) (some (.int .i64 d)) (some (.int .i64 ((d : Int) + 1))) none).run Tryd.prog w = .ok (.string ⟨#[hexDig d]⟩) w := by
  have hd : d = 0 ∨ d = 1 ∨ d = 2 ∨ d = 3 ∨ d = 4 ∨ d = 5 ∨ d = 6 ∨ d = 7 ∨ d = 8 ∨ d = 9 ∨ d = 10 ∨ d = 11 ∨ d = 12 ∨ d = 13 ∨ d = 14 ∨ d = 15 := by omega
  rcases hd with rfl | rfl | rfl | rfl | rfl | rfl | rfl | rfl | rfl | rfl | rfl | rfl | rfl | rfl | rfl | rfl
  all_goals (refine (?_ : _ = _); rfl)

set_option maxHeartbeats 400000 in
set_option maxRecDepth 100000 in
theorem rdigits_calls (m : Nat) : ∀ (n : Nat), n < 16 ^ (m + 1) → m ≤ 13 → ∀ w : World,
    Calls Tryd.prog 58 #[.int .i64 n] w fun e w' => e = .returned (.string ⟨(hexL n).toArray⟩) ∧ w = w' := by
  have low : ∀ (n : Nat), n < 16 → ∀ w : World, Calls Tryd.prog 58 #[.int .i64 n] w fun e w' => e = .returned (.string ⟨(hexL n).toArray⟩) ∧ w = w' := by
    intro n h16 w
    have t1 : decide ((n : Int) < 16) = true := decide_eq_true (by omega)
    have hr : Int.tmod (n : Int) 16 = (n : Int) := by rw [Int.tmod_eq_emod_of_nonneg (by omega)]; omega
    have hs := fun W => hex16_at W n h16
    have hw : wrap64 ((n : Int) + 1) = (n : Int) + 1 := IntWalk.wrap64_in _ (by omega)
    have HL := Lib.hid (hexL_last n h16)
    clear h16
    go_enter Tryd.func58, Tryd.ntmps58
    go_wp2_with fail
    go_ret
    exact ⟨by rw [HL.out]; rfl, rfl⟩
  induction m with
  | zero => exact fun n hn _ w => low n (by omega) w
  | succ m ih =>
    intro n hn hm w
    by_cases h16 : n < 16
    · exact low n h16 w
    · have t1 : decide ((n : Int) < 16) = false := decide_eq_false (by omega)
      have hq : n / 16 < 16 ^ (m + 1) := pow16_step n (m + 1) hn
      have hbound : n < 16 ^ 15 := Nat.lt_of_lt_of_le hn (Nat.pow_le_pow_right (by omega) (by omega))
      have e15 : (16 : Nat) ^ 15 = 1152921504606846976 := by decide
      have hr : Int.tmod (n : Int) 16 = ((n % 16 : Nat) : Int) := by rw [Int.tmod_eq_emod_of_nonneg (by omega)]; omega
      have hq2 : Int.tdiv (n : Int) 16 = ((n / 16 : Nat) : Int) := by rw [Int.tdiv_eq_ediv_of_nonneg (by omega)]; omega
      obtain ⟨d, hd⟩ : ∃ d, n % 16 = d := ⟨_, rfl⟩
      obtain ⟨q, hqq⟩ : ∃ q, n / 16 = q := ⟨_, rfl⟩
      have hd16 : d < 16 := by omega
      rw [hd] at hr
      rw [hqq] at hq2 hq
      have hs := fun W => hex16_at W d hd16
      have hw : wrap64 ((d : Int) + 1) = (d : Int) + 1 := IntWalk.wrap64_in _ (by omega)
      have hw2 : wrap64 (q : Int) = (q : Int) := IntWalk.wrap64_in _ (by omega)
      have HL := Lib.hid (show hexL n = hexL q ++ [hexDig d] from by rw [hexL_step n (by omega), hqq, hd])
      have hlf : ¬ 9223372036854775807 < (hexL q).length + 1 := by have := hexL_len q m hq; omega
      have HI := Lib.hid (ih q hq (by omega) w)
      clear hn h16 hd hqq hd16 hbound e15 hq ih low
      go_enter Tryd.func58, Tryd.ntmps58
      go_wp2_with fail
      refine HI.out.mono ?_
      rintro e w' ⟨rfl, rfl⟩
      go_wp2_with fail
      go_ret
      exact ⟨by rw [HL.out, ← ba_append]; rfl, rfl⟩

set_option maxRecDepth 100000 in
theorem rPut_empty (w : World) (ao : Option Addr) (c : Nat) : Calls Tryd.prog 40 #[.slice ao 0 c] w fun e w' => e = .returned (.slice none 0 0) ∧ w = w' := by
  go_enter Tryd.func40, Tryd.ntmps40
  go_wp2_with fail
  go_ret
  exact ⟨rfl, rfl⟩

set_option maxHeartbeats 1000000 in
set_option maxRecDepth 100000 in
theorem rPut_some (w : World) (ao : Option Addr) (l : List UInt8) (c : Nat) (hl0 : 0 < l.length) (hl : l.length ≤ 1099511627776) (hb : Bs w ao l) (hn : ao = none → c = 0) :
    Calls Tryd.prog 40 #[.slice ao l.length c] w fun e w' => ∃ v', e = .returned v' ∧ Ow w' w.heap.size v' (putL l) ∧ Below w.heap.size w w' := by
  have hp : putL l = hexL l.length ++ [13, 10] ++ l ++ [13, 10] := if_neg (by intro h; rw [h] at hl0; simp at hl0)
  have h16 : l.length < 16 ^ 12 := by
    have : (16 : Nat) ^ 12 = 281474976710656 := by decide
    omega
  obtain ⟨X, hX⟩ : ∃ X, hexL l.length ++ [13, 10] = X := ⟨_, rfl⟩
  have kc : ∀ W : World, (convert 9 43 (.string (⟨(hexL l.length).toArray⟩ ++ ⟨#[13, 10]⟩))).run Tryd.prog W = .ok (.slice (some ⟨W.heap.size, 0, none⟩) X.length (grownCap W X.length 0 5)) (Lib.bytesWorld W 5 ⟨X.toArray⟩) := by
    intro W
    rw [show (⟨(hexL l.length).toArray⟩ ++ ⟨#[13, 10]⟩ : ByteArray) = ⟨X.toArray⟩ from by rw [← hX]; exact ba_append _ [13, 10]]
    exact Lib.run_convert_string_bytes (P := Tryd.prog) W 9 43 5 ⟨X.toArray⟩ Tryd.underlying9 Tryd.underlying43 Tryd.underlying5
  have hXl : X.length ≤ 14 := by rw [← hX, List.length_append]; have := hexL_len _ 11 h16; simp; omega
  rw [hX] at hp
  have HW : Hid (Ow (Lib.bytesWorld w 5 ⟨X.toArray⟩) w.heap.size (.slice (some ⟨w.heap.size, 0, none⟩) X.length (grownCap w X.length 0 5)) X) := Lib.hid (Ow.bytes w ⟨X.toArray⟩ (by show X.length ≤ _; omega))
  have HBW : Hid (Below w.heap.size w (Lib.bytesWorld w 5 ⟨X.toArray⟩)) := Lib.hid (Lib.bytesWorld_below w 5 ⟨X.toArray⟩)
  have HBs : Hid (Bs (Lib.bytesWorld w 5 ⟨X.toArray⟩) ao l) := Lib.hid (hb.below HBW.out)
  have HS1 : Hid (X.length + l.length ≤ 70368744177664) := Lib.hid (by omega)
  have HS2 : Hid ((X ++ l).length + 2 ≤ 70368744177664) := Lib.hid (by rw [List.length_append]; omega)
  have HP := Lib.hid hp
  have H := Lib.hid (rdigits_calls 11 l.length h16 (by omega) w)
  have HB := Lib.hid hb
  have HX : Hid ((hexL l.length).length ≤ 12) := Lib.hid (hexL_len _ 11 h16)
  have hlf : ¬ 9223372036854775807 < (hexL l.length).length + 2 := by have := HX.out; omega
  have HL := Lib.hid hl
  have HN := Lib.hid hn
  have hne : ((l.length : Int) == 0) = false := beq_eq_false_iff_ne.2 (by omega)
  clear hp h16 hb hl hn hX hXl
  go_enter Tryd.func40, Tryd.ntmps40
  go_wp2_with fail
  refine H.out.mono ?_
  rintro e w1 ⟨rfl, rfl⟩
  clear H
  go_wp2_with (first
    | (at_builtin; refine wp_app rfl _ _ rfl w.heap.size _ _ rfl HW.out ao _ _ rfl l rfl HBs.out HN.out HS1.out HBW.out.size ?_; intro v2 w2 hown hgr _; have HB2 := Lib.hid (Below.own HBW.out HW.out hgr (Nat.le_refl _)); have HO2 := Lib.hid hown; have HO2a := Lib.hid (hown.below ((Below.refl w2.heap.size w2).alloc (Nat.le_refl _) (.cells #[bv 13, bv 10] 5))); have HB2a := Lib.hid ((HB2.out).trans (((Below.refl w2.heap.size w2).alloc (Nat.le_refl _) (.cells #[bv 13, bv 10] 5)).mono HB2.out.size)); have HBs2 : Hid (Bs (w2.alloc (.cells #[bv 13, bv 10] 5)) (some ⟨w2.heap.size, 0, none⟩) [13, 10]) := Lib.hid (Bs.of_block (heap_alloc_new w2 _)); clear hown hgr HW)
    | (at_builtin; refine wp_app rfl _ _ rfl w.heap.size v2 _ rfl HO2a.out (some ⟨w2.heap.size, 0, none⟩) _ _ rfl [13, 10] rfl HBs2.out nofun HS2.out HB2a.out.size ?_; intro v4 w4 hown hgr _; have HB4 := Lib.hid (Below.own HB2a.out HO2a.out hgr (Nat.le_refl _)); have HO4 := Lib.hid hown; clear hown hgr HO2a))
  go_ret
  exact ⟨_, rfl, by rw [HP.out]; exact HO4.out, HB4.out⟩

set_option maxRecDepth 100000 in
theorem rPut_calls (w : World) (ao : Option Addr) (l : List UInt8) (c : Nat) (hl : l.length ≤ 1099511627776) (hb : Bs w ao l) (hn : ao = none → c = 0) :
    Calls Tryd.prog 40 #[.slice ao l.length c] w fun e w' => ∃ v', e = .returned v' ∧ Ow w' w.heap.size v' (putL l) ∧ Below w.heap.size w w' := by
  by_cases h0 : l = []
  · subst h0
    exact (rPut_empty w ao c).mono fun e w' ⟨he, hw⟩ => by subst he; subst hw; exact ⟨_, rfl, Ow.nil _ _, Below.refl _ _⟩
  · exact rPut_some w ao l c (List.length_pos_iff.2 h0) hl hb hn

set_option maxHeartbeats 400000 in
set_option maxRecDepth 100000 in
theorem rLast_calls (w : World) : Calls Tryd.prog 41 #[] w fun e w' => ∃ v', e = .returned v' ∧ Ow w' w.heap.size v' lastL ∧ Below w.heap.size w w' := by
  have kc := fun (w : World) (C : Array Value) (n c : Nat) => Lib.run_convert_bytes_const (P := Tryd.prog) w 43 5 C n c Tryd.underlying43 Tryd.underlying5
  go_enter Tryd.func41, Tryd.ntmps41
  go_wp2
  go_ret
  refine ⟨_, rfl, ⟨rfl, .inr ⟨w.heap.size, 5, _, _, rfl, Nat.le_refl _, heap_alloc_new w _, fun j _ h2 h3 => ?_, Nat.le_refl _, by decide, rfl, rfl⟩⟩, (Below.refl _ _).alloc (Nat.le_refl _) _⟩
  have := h3.1
  omega
end Go.Proofs.YteneioapchhehaaDoor

/- The reference of chapter 10: Whole. -/
namespace Go.Proofs.YteneioapchhehaaDoor
open Go.RowKit

set_option maxRecDepth 100000 in
theorem outOf_cons (l : List UInt8) (x : { x : Nat × Nat // x.1 + x.2 ≤ l.length }) (xs : List { x : Nat × Nat // x.1 + x.2 ≤ l.length }) : outOf l (x :: xs) = putL ((l.drop x.1.1).take x.1.2) ++ outOf l xs := by simp [outOf]
set_option maxRecDepth 100000 in
theorem cidx_step (l : List UInt8) (n f i : Nat) (hn : 1 ≤ n) (h : n < (l.drop i).length) (hf : l.length ≤ i + f) : ∃ f', l.length ≤ (i + n) + f' ∧ outOf l (cidx n l.length f i) = putL ((l.drop i).take n) ++ outOf l (cidx n l.length f' (i + n)) := by
  rw [List.length_drop] at h
  cases f with
  | zero => omega
  | succ f =>
    refine ⟨f, by omega, ?_⟩
    rw [cidx, dif_pos (by omega), outOf_cons]
    dsimp only
    rw [Nat.min_eq_left (by omega)]
set_option maxRecDepth 100000 in
theorem cidx_end (l : List UInt8) (n f i : Nat) (_ : 1 ≤ n) (h : ¬ n < (l.drop i).length) (hf : l.length ≤ i + f) : outOf l (cidx n l.length f i) = putL (l.drop i) := by
  rw [List.length_drop] at h
  by_cases hi : i < l.length
  · cases f with
    | zero => omega
    | succ f =>
      rw [cidx, dif_pos hi, outOf_cons]
      dsimp only
      rw [Nat.min_eq_right (by omega), List.take_of_length_le (by simp)]
      have : cidx n l.length f (i + n) = [] := by
        cases f with
        | zero => rfl
        | succ f => rw [cidx, dif_neg (by omega)]
      rw [this]
      simp [outOf]
  · rw [List.drop_eq_nil_of_le (by omega)]
    have : cidx n l.length f i = [] := by
      cases f with
      | zero => rfl
      | succ f => rw [cidx, dif_neg hi]
    rw [this]
    simp [outOf, putL]

def RwRel (w : World) (l : List UInt8) (n : Nat) (r : List UInt8) (v6 : Value) (wr : World) : Prop :=
  ∃ i f out, r = l.drop i ∧ l.length ≤ i + f ∧ out ++ outOf l (cidx n l.length f i) ++ lastL = wholeL l n ∧ Ow wr w.heap.size v6 out ∧ Below w.heap.size w wr

set_option maxHeartbeats 1000000 in
set_option maxRecDepth 100000 in
theorem rWhole_err (w : World) (v : Value) (n : Int) (hn : n < 1) :
    Calls Tryd.prog 23 #[v, .int .i64 n] w fun e w' => e = .returned (.tuple #[.slice none 0 0, .int .i64 1]) ∧ w = w' := by
  go_enter Tryd.func23, Tryd.ntmps23
  go_wp2
  go_ret2
  exact ⟨rfl, rfl⟩

set_option maxHeartbeats 2000000 in
set_option maxRecDepth 100000 in
theorem rWhole_calls (w : World) (ao : Option Addr) (l : List UInt8) (c : Nat) (hl : l.length ≤ 1048576) (hcap : l.length ≤ c) (hb : Bs w ao l) (hao : ao = none → c = 0) (n : Nat) (hn : 1 ≤ n) (hn2 : n ≤ 9223372036854775807) :
    Calls Tryd.prog 23 #[.slice ao l.length c, .int .i64 n] w fun e w' => ∃ v', e = .returned (.tuple #[v', .int .i64 0]) ∧ Ow w' w.heap.size v' (wholeL l n) ∧ Below w.heap.size w w' := by
  have HWL : Hid ((wholeL l n).length ≤ 1099600000000) := Lib.hid (by
    have h3 := outOf_len l hl (cidx n l.length l.length 0)
    have h4 := cidx_len n l.length l.length 0
    have h5 : (cidx n l.length l.length 0).length * 1048592 ≤ 1048576 * 1048592 := Nat.mul_le_mul_right _ (by omega)
    unfold wholeL
    rw [List.length_append]
    have : lastL.length = 5 := rfl
    omega)
  have HR0 : Hid (RwRel w l n l (.slice none 0 0) w) := Lib.hid ⟨0, l.length, [], rfl, by omega, rfl, Ow.nil _ _, Below.refl _ _⟩
  have HB := Lib.hid hb
  have HC := Lib.hid hcap
  have HA := Lib.hid hao
  have HL := Lib.hid hl
  have ht1 : decide ((n : Int) < 1) = false := decide_eq_false (by omega)
  have HN : Hid (1 ≤ n) := Lib.hid hn
  clear hb hcap hao hl hn hn2
  go_enter Tryd.func23, Tryd.ntmps23
  go_wp2_with fail
  go_loopw [0, 6] (fun v0 v6 wr => ∃ a' c' r, v0 = .slice a' (List.length r) c' ∧ Bs w a' r ∧ r.length ≤ c' ∧ (a' = none → c' = 0) ∧ r.length ≤ l.length ∧ RwRel w l n r v6 wr) (fun v0 _ _ => match v0 with | .slice _ n _ => n | _ => 0)
  case atStart => exact ⟨ao, c, l, rfl, HB.out, HC.out, HA.out, Nat.le_refl _, HR0.out⟩
  case round =>
    obtain ⟨a', c', r, rfl, hbs, hrc, hrn, hrl, i, f, out, hr, hf, hout, ho, hbel⟩ := hrel
    clear HR0 HB HC HA
    have HOL : Hid (out.length ≤ 1099600000000) := Lib.hid (by have := HWL.out; rw [← hout, List.length_append, List.length_append] at this; omega)
    by_cases hbig : n < r.length
    · obtain ⟨f', hf', hstep⟩ := cidx_step l n f i HN.out (hr ▸ hbig) hf
      obtain ⟨p, hp⟩ : ∃ p, r.take n = p := ⟨_, rfl⟩
      obtain ⟨r', hr'⟩ : ∃ r', r.drop n = r' := ⟨_, rfl⟩
      have hpl : p.length = n := by rw [← hp, List.length_take]; omega
      have hrl' : r'.length = r.length - n := by rw [← hr', List.length_drop]
      have hsl1 := fun W => run_sliceTo W a' r.length c' n (by omega)
      have hsl2 := fun W => run_sliceFrom W a' r.length c' n (by omega)
      rw [← hrl'] at hsl2
      have hsl3 : ∀ W, (Instr.sliceAt 43 (.slice a' r.length c') none (some (.int .i64 n)) none).run Tryd.prog W = .ok (.slice a' p.length c') W := by rw [hpl]; exact hsl1
      clear hsl1
      have HP := Lib.hid (show Bs w a' p → True from fun _ => trivial)
      have HBP := Lib.hid (show Bs wr a' p from hp ▸ (hbs.below hbel).take n)
      have HBR := Lib.hid (show Bs w (fromA a' c' n) r' from hr' ▸ hbs.from c' n hrc)
      have HRC : Hid (r'.length ≤ c' - n ∧ r'.length ≤ l.length ∧ p.length ≤ 1048576 ∧ n ≤ r.length) := Lib.hid (by have := HL.out; omega)
      have HRN : Hid (fromA a' c' n = none → c' - n = 0) := Lib.hid (fun e => by have := hrn (fromA_none e); omega)
      have HAN := Lib.hid hrn
      have HO := Lib.hid ho
      have HBE := Lib.hid hbel
      have HNEW : Hid (∀ v wr', Ow wr' w.heap.size v (out ++ putL p) → Below w.heap.size w wr' → RwRel w l n r' v wr') := Lib.hid (fun v wr' h1 h2 => ⟨i + n, f', out ++ putL p, by rw [← hr', hr, List.drop_drop], hf', by rw [← hout, hstep, ← hr, hp]; simp only [List.append_assoc], h1, h2⟩)
      have HPL : Hid ((putL p).length ≤ p.length + 16) := Lib.hid (putL_len p (by have := HRC.out; omega))
      have HS1 : Hid (out.length + (putL p).length ≤ 70368744177664) := Lib.hid (by have := HOL.out; have := HPL.out; have := HRC.out; omega)
      have HLT : Hid (r'.length < r.length) := Lib.hid (by have := HN.out; omega)
      clear hbs hrc hrn hrl hr hf hout ho hbel hf' hstep hp hr' hpl hrl' HP
      go_wp2_with fail
      refine (rPut_calls wr a' p c' (by have := HRC.out; omega) HBP.out HAN.out).mono ?_
      rintro e w2 ⟨ov2, rfl, ho2, hb2⟩
      obtain ⟨a2, c2, rfl, hs2, -, -, hn2⟩ := ho2.bs'
      have HB2 := Lib.hid (HBE.out.trans (hb2.mono HBE.out.size))
      have HO := Lib.hid (HO.out.below hb2)
      have HS2 := Lib.hid hs2
      have HN2 := Lib.hid hn2
      clear ho2 hb2 hs2 hn2
      go_wp2_with (first
        | (at_builtin; refine wp_app rfl _ _ rfl w.heap.size u6 _ rfl HO.out a2 _ _ rfl (putL p) rfl HS2.out HN2.out HS1.out HB2.out.size ?_; intro v5 w5 hown hgr hal; have HB5 := Lib.hid (Below.own HB2.out HO.out hgr (Nat.le_refl _)); have HO5 := Lib.hid hown; have HG := Lib.hid hgr; clear hown hgr hal))
      go_roundw
      case rel =>
        exact ⟨_, _, r', rfl, HBR.out, HRC.out.1, HRN.out, HRC.out.2.1, HNEW.out _ _ HO5.out HB5.out⟩
      case measure => exact HLT.out
    · have hend := cidx_end l n f i HN.out (hr ▸ hbig) hf
      rw [hend, ← hr] at hout
      have HO := Lib.hid ho
      have HBE := Lib.hid hbel
      have HBR := Lib.hid (hbs.below hbel)
      have HAN := Lib.hid hrn
      have HOUT := Lib.hid hout
      have HRL : Hid (r.length ≤ 1048576) := Lib.hid (Nat.le_trans hrl HL.out)
      have HPL : Hid ((putL r).length ≤ r.length + 16) := Lib.hid (putL_len r (by have := HRL.out; omega))
      have HS1 : Hid (out.length + (putL r).length ≤ 70368744177664) := Lib.hid (by have := HOL.out; have := HPL.out; have := HRL.out; omega)
      have HS2 : Hid ((out ++ putL r).length + lastL.length ≤ 70368744177664) := Lib.hid (by rw [List.length_append]; have := HOL.out; have := HPL.out; have := HRL.out; have : lastL.length = 5 := rfl; omega)
      clear hbs hrc hrn hrl hr hf hout ho hbel hend
      go_wp2_with fail
      refine (rPut_calls wr a' r c' (by have := HRL.out; omega) HBR.out HAN.out).mono ?_
      rintro e w2 ⟨ov2, rfl, ho2, hb2⟩
      obtain ⟨a2, c2, rfl, hs2, -, -, hn2⟩ := ho2.bs'
      have HB2 := Lib.hid (HBE.out.trans (hb2.mono HBE.out.size))
      have HO := Lib.hid (HO.out.below hb2)
      have HSa := Lib.hid hs2
      have HNa := Lib.hid hn2
      clear ho2 hb2 hs2 hn2
      go_wp2_with (first
        | (at_builtin; refine wp_app rfl _ _ rfl w.heap.size u6 _ rfl HO.out a2 _ _ rfl (putL r) rfl HSa.out HNa.out HS1.out HB2.out.size ?_; intro v5 w5 hown hgr hal; have HB5 := Lib.hid (Below.own HB2.out HO.out hgr (Nat.le_refl _)); have HO5 := Lib.hid hown; clear hown hgr hal))
      refine (rLast_calls _).mono ?_
      rintro e w6 ⟨ov6, rfl, ho6, hb6⟩
      obtain ⟨a6, c6, rfl, hs6, -, -, hn6⟩ := ho6.bs'
      have HB6 := Lib.hid (HB5.out.trans (hb6.mono HB5.out.size))
      have HO6 := Lib.hid (HO5.out.below hb6)
      have HSb := Lib.hid hs6
      have HNb := Lib.hid hn6
      clear ho6 hb6 hs6 hn6
      go_wp2_with (first
        | (at_builtin; refine wp_app rfl _ _ rfl w.heap.size v5 _ rfl HO6.out a6 _ _ rfl lastL rfl HSb.out HNb.out HS2.out HB6.out.size ?_; intro v7 w7 hown hgr hal; have HB7 := Lib.hid (Below.own HB6.out HO6.out hgr (Nat.le_refl _)); have HO7 := Lib.hid hown; clear hown hgr hal))
      go_ret2
      exact ⟨_, rfl, by rw [← HOUT.out]; exact HO7.out, HB7.out⟩
end Go.Proofs.YteneioapchhehaaDoor
