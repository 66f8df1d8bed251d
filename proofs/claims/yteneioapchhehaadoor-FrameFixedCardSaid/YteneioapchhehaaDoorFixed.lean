/- FrameFixed: the law's walk. -/
import Derived.Test.YteneioapchhehaaDoorFrR
namespace Go.Proofs.YteneioapchhehaaDoor
open Go.RowKit

theorem readL_fixed (cuts : BL) (ch : Rd) : ∀ (f L : Nat) (rest : BL) (i : Nat) (out : BL) (k : Nat), rest.length ≤ f → L ≤ rest.length →
    readL cuts f ⟨1, (L : Int), false, ch⟩ rest i out k = (out ++ rest.take L, k + L, true, ⟨1, 0, false, ch⟩)
  | 0, L, rest, i, out, k, hf, hL => by
    have h0 : L = 0 := by omega
    subst h0
    simp [readL]
  | f + 1, L, rest, i, out, k, hf, hL => by
    unfold readL
    by_cases h0 : L = 0
    · subst h0
      rw [if_pos (.inr (by rfl))]
      simp
    · have hne : ¬ rest = [] := by rintro rfl; simp at hL; exact h0 hL
      have hd : frDone ⟨1, (L : Int), false, ch⟩ = false := by
        show ((L : Int) == 0) = false
        exact beq_eq_false_iff_ne.2 (by omega)
      have hrp : 0 < rest.length := List.length_pos_iff.2 hne
      obtain ⟨N, hN⟩ : ∃ N, cutN cuts i rest.length = N := ⟨_, rfl⟩
      have hN1 : N ≤ rest.length := hN ▸ cutN_le _ _ _
      have hN0 : 0 < N := hN ▸ cutN_pos _ _ _ hrp
      rw [if_neg (by rintro (h | h); exact hne h; rw [hd] at h; cases h), hN]
      obtain ⟨m, hm⟩ : ∃ m, min N L = m := ⟨_, rfl⟩
      have hPl : (rest.take N).length = N := by rw [List.length_take]; omega
      have hq : frTake ⟨1, (L : Int), false, ch⟩ (rest.take N) = (⟨1, ((L - m : Nat) : Int), false, ch⟩, rest.take m, m, true) := by
        unfold frTake
        rw [if_neg (by simp), if_neg (by simp), if_pos rfl]
        dsimp only
        rw [hPl, List.take_take, Int.toNat_natCast, hm, Nat.min_comm, hm, min_nat, hm]
        have : (L : Int) - (m : Int) = ((L - m : Nat) : Int) := by omega
        rw [this]
      rw [hq]
      dsimp only
      rw [if_neg (by simp; omega), readL_fixed cuts ch f (L - m) (rest.drop m) (i + 1) (out ++ rest.take m) (k + m) (by rw [List.length_drop]; omega) (by rw [List.length_drop]; omega)]
      have e1 : rest.take m ++ (rest.drop m).take (L - m) = rest.take L := by
        have : L = m + (L - m) := by omega
        conv => rhs; rw [this, List.take_add]
      rw [List.append_assoc, e1]
      have e2 : k + m + (L - m) = k + L := by omega
      rw [e2]

set_option maxHeartbeats 2000000 in
set_option maxRecDepth 100000 in
theorem Fixed_big (w : World) (hG : Gw w) (ao bo co : Option Addr) (l m n c d e : Nat) (h : 200 < l ∨ 50 < m ∨ 200 < n) :
    Calls Tryd.prog 5 #[.slice ao l c, .slice bo m d, .slice co n e] w fun e w' => e = .returned (.bool true) ∧ Below w.heap.size w w' := by
  have HG := Lib.hid hG
  clear hG
  obtain ⟨q1, t1⟩ : ∃ q, decide ((200 : Int) < (l : Int)) = q := ⟨_, rfl⟩
  obtain ⟨q2, t2⟩ : ∃ q, decide ((50 : Int) < (m : Int)) = q := ⟨_, rfl⟩
  obtain ⟨q3, t3⟩ : ∃ q, decide ((200 : Int) < (n : Int)) = q := ⟨_, rfl⟩
  have hq : (q1 || q2 || q3) = true := by
    rw [← t1, ← t2, ← t3]; simp; omega
  clear h
  go_enter Tryd.func5, Tryd.ntmps5
  go_wp2_with fail
  refine (awake_calls _ HG.out).mono ?_
  rintro e w1 ⟨rfl, hb1⟩
  have HB1 := Lib.hid hb1
  clear hb1
  cases q1
  · cases q2
    · cases q3
      · cases hq
      · go_wp2_with fail
        refine (awake_calls _ (HG.out.below HB1.out)).mono ?_
        rintro e w2 ⟨rfl, hb2⟩
        have HB2 := Lib.hid (HB1.out.trans (hb2.mono HB1.out.size))
        clear hb2
        go_wp2_with fail
        go_ret
        exact ⟨rfl, HB2.out⟩
    · go_wp2_with fail
      refine (awake_calls _ (HG.out.below HB1.out)).mono ?_
      rintro e w2 ⟨rfl, hb2⟩
      have HB2 := Lib.hid (HB1.out.trans (hb2.mono HB1.out.size))
      clear hb2
      go_wp2_with fail
      go_ret
      exact ⟨rfl, HB2.out⟩
  · go_wp2_with fail
    refine (awake_calls _ (HG.out.below HB1.out)).mono ?_
    rintro e w2 ⟨rfl, hb2⟩
    have HB2 := Lib.hid (HB1.out.trans (hb2.mono HB1.out.size))
    clear hb2
    go_wp2_with fail
    go_ret
    exact ⟨rfl, HB2.out⟩

set_option maxHeartbeats 8000000 in
set_option maxRecDepth 100000 in
theorem Fixed_calls (w : World) (hG : Gw w) (ao : Option Addr) (l : List UInt8) (c : Nat) (hlc : l.length ≤ c) (h1 : Bs w ao l) (hn1 : ao = none → c = 0) (bo : Option Addr) (m : List UInt8) (d : Nat) (hmd : m.length ≤ d) (h2 : Bs w bo m) (hn2 : bo = none → d = 0)
    (co : Option Addr) (n : List UInt8) (f : Nat) (hnf : n.length ≤ f) (h3 : Bs w co n) (hn3 : co = none → f = 0) :
    Calls Tryd.prog 5 #[.slice ao l.length c, .slice bo m.length d, .slice co n.length f] w fun e w' => e = .returned (.bool true) ∧ Below w.heap.size w w' := by
  by_cases hbig : 200 < l.length ∨ 50 < m.length ∨ 200 < n.length
  · exact Fixed_big w hG ao bo co _ _ _ c d f hbig
  have t1 : decide ((200 : Int) < (l.length : Int)) = false := decide_eq_false (by omega)
  have t2 : decide ((50 : Int) < (m.length : Int)) = false := decide_eq_false (by omega)
  have t3 : decide ((200 : Int) < (n.length : Int)) = false := decide_eq_false (by omega)
  have HG := Lib.hid hG
  have HX := Lib.hid hG.gv.lt
  have H1 := Lib.hid h1
  have H2 := Lib.hid h2
  have H3 := Lib.hid h3
  have HN1 := Lib.hid hn1
  have HN2 := Lib.hid hn2
  have HL : Hid (l.length ≤ 200 ∧ m.length ≤ 50 ∧ n.length ≤ 200) := Lib.hid (by omega)
  have HOK : Hid (newOk 1 (l.length : Int) = true) := Lib.hid (by
    unfold newOk
    rw [decide_eq_true (show (1 : Int) ≤ 1 by decide), decide_eq_true (show (1 : Int) ≤ 4 by decide), decide_eq_true (show (0 : Int) ≤ (l.length : Int) by omega), decide_eq_true (show (l.length : Int) ≤ 1099511627776 by omega)]
    rfl)
  have HF := Lib.hid hnf
  clear hG h1 h2 h3 hn1 hn2 hn3 hlc hmd hnf hbig
  go_enter Tryd.func5, Tryd.ntmps5
  go_wp2_with fail
  refine (awake_calls _ HG.out).mono ?_
  rintro e w1 ⟨rfl, hb1⟩
  have HB1 := Lib.hid hb1
  clear hb1
  go_wp2_with fail
  refine (fNew_ok w1 1 (l.length : Int) HOK.out).mono ?_
  rintro e w2 ⟨g, rfl, hr2, hb2⟩
  have HR2 := Lib.hid hr2
  have HN := Lib.hid HB1.out.size
  have HGC : Hid (0 < w1.heap.size) := Lib.hid (Nat.lt_of_lt_of_le HX.out.2 HN.out)
  have HB2 : Hid (Below w.heap.size w w2) := Lib.hid (HB1.out.trans (hb2.mono HB1.out.size))
  obtain ⟨gc, hgc⟩ : ∃ gc, w1.heap.size = gc := ⟨_, rfl⟩
  rw [hgc] at HR2 HN HGC
  clear hr2 hb2 HB1 hgc
  have HW := Lib.hid (Ow.lit0 w2 w2.heap.size (Nat.le_refl _))
  have HBW := Lib.hid ((Below.refl w2.heap.size w2).alloc (Nat.le_refl _) (.cells #[] 5))
  have HBs1 := Lib.hid ((H1.out.below HB2.out).below HBW.out)
  have HS1 : Hid ((([] : List UInt8)).length + l.length ≤ 70368744177664) := Lib.hid (by have := HL.out; simp; omega)
  have HS2 : Hid ((([] : List UInt8) ++ l).length + m.length ≤ 70368744177664) := Lib.hid (by have := HL.out; simp; omega)
  obtain ⟨T, hT⟩ : ∃ T, ([] ++ l) ++ m = T := ⟨_, rfl⟩
  have HT := Lib.hid hT
  have HTL : Hid (T.length = l.length + m.length) := Lib.hid (by rw [← hT]; simp)
  clear hT
  go_wp2_with (first
    | (at_builtin; refine wp_app rfl _ _ rfl w2.heap.size (.slice (some ⟨w2.heap.size, 0, none⟩) 0 0) _ rfl HW.out ao _ _ rfl l rfl HBs1.out HN1.out HS1.out HBW.out.size ?_; intro v3 w3 hown hgr _; have HB3 := Lib.hid (Below.own HBW.out HW.out hgr (Nat.le_refl _)); have HO3 := Lib.hid hown; have HBs2 := Lib.hid ((H2.out.below HB2.out).below HB3.out); clear hown hgr HW)
    | (at_builtin; refine wp_app rfl _ _ rfl w2.heap.size v3 _ rfl HO3.out bo _ _ rfl m rfl HBs2.out HN2.out HS2.out HB3.out.size ?_; intro v4 w4 hown hgr _; have HB4 := Lib.hid (Below.own HB3.out HO3.out hgr (Nat.le_refl _)); rw [HT.out] at hown; obtain ⟨a4, c4, rfl, hs4, hc4, -, hn4⟩ := hown.bs'; have HS4 := Lib.hid hs4; have HC4 := Lib.hid hc4; have HN4 := Lib.hid hn4; clear hown hgr HO3 hs4 hc4 hn4))
  have HB4' : Hid (Below w.heap.size w w4) := Lib.hid (HB2.out.trans (HB4.out.mono HB2.out.size))
  have HR4 := Lib.hid (HR2.out.below HB4.out)
  refine (fread_calls w4 g gc _ (frNew_I HOK.out) HR4.out (HG.out.below HB4'.out).gv.es HGC.out a4 co T n c4 f (by have := HTL.out; have := HL.out; omega) HC4.out HN4.out HS4.out (by have := HL.out; omega) HF.out (H3.out.below HB4'.out)).mono ?_
  rw [show frNew 1 (l.length : Int) = ⟨1, ((l.length : Nat) : Int), false, ⟨0, 0, 0, 0⟩⟩ from rfl, readL_fixed n ⟨0, 0, 0, 0⟩ T.length l.length T 0 [] 0 (Nat.le_refl _) (by have := HTL.out; omega), show [] ++ T.take l.length = l from by rw [← HT.out]; simp, Nat.zero_add]
  rintro e w5 ⟨rfl, hr5, hi5, hc5⟩
  have HR5 := Lib.hid hr5
  have HI5 := Lib.hid hi5
  have HB5 := Lib.hid (fch_below HB4'.out hc5 HN.out HR2.out.1)
  have rs : (convert 43 9 (.slice ao l.length c)).run Tryd.prog w5 = .ok (.string (bs l)) w5 := run_str (n := l.length) (H1.out.below HB5.out) rfl c
  have heq : ((l.length : Int) == (l.length : Int)) = true := by simp
  have heb : ((bs l).toList == (bs l).toList) = true := by simp
  have hd5 : frDone ⟨1, 0, false, ⟨0, 0, 0, 0⟩⟩ = true := rfl
  have hd6 : frDone (endR ⟨1, 0, false, ⟨0, 0, 0, 0⟩⟩) = true := rfl
  have hen : endN true = 0 := rfl
  have HGG := Lib.hid HR2.out.1
  clear hr5 hi5 hc5
  go_wp2_with (first
    | (go_at_call 17; with_reducible refine (fDone_calls w5 g gc _ HI5.out HR5.out).mono ?_; rintro e w' ⟨rfl, rfl⟩)
    | (go_at_call 20; with_reducible refine (fEnd_calls w5 g gc _ HI5.out HR5.out).mono ?_; rintro e w6 ⟨rfl, hr6, hc6⟩; have HB6 := Lib.hid (fch_below HB5.out hc6 HN.out HGG.out); clear hr6 hc6))
  go_ret
  exact ⟨rfl, HB6.out⟩
end Go.Proofs.YteneioapchhehaaDoor
