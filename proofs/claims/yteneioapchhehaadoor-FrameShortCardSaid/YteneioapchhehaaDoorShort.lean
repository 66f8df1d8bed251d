/- FrameShort: the law's walk. -/
import Derived.Test.YteneioapchhehaaDoorChunks
import Derived.Test.YteneioapchhehaaDoorMd
namespace Go.Proofs.YteneioapchhehaaDoor
open Go.RowKit

theorem whole_cut (l : List UInt8) (n cut : Nat) (hl : l.length ≤ 600) (h : cut < (wholeL l n).length) :
    ∃ r d, takeA ⟨0, 0, 0, 0⟩ ((wholeL l n).take cut) = (r, d, cut, true) ∧ ¬ r.st = 10 := by
  have hp : ∀ x ∈ piecesL l n, x.length < 16 ^ 12 := fun x hx => by
    have := pieces_len l n x hx
    have e : (16 : Nat) ^ 12 = 281474976710656 := by decide
    omega
  have h1 := takeA_cut (piecesL l n) hp
  rw [← whole_pieces] at h1
  obtain ⟨W, hW⟩ : ∃ W, wholeL l n = W := ⟨_, rfl⟩
  rw [hW] at h h1 ⊢
  have hsp : W.take cut ++ (W.take (W.length - 1)).drop cut = W.take (W.length - 1) := by
    have := List.take_append_drop cut (W.take (W.length - 1))
    rw [List.take_take, Nat.min_eq_left (by omega)] at this
    exact this
  have hlen : (W.take cut).length = cut := by rw [List.length_take]; omega
  have hok : (takeA ⟨0, 0, 0, 0⟩ (W.take cut)).2.2.2 = true := by
    cases hh : (takeA ⟨0, 0, 0, 0⟩ (W.take cut)).2.2.2 with
    | true => rfl
    | false =>
      have := takeA_app_er (W.take cut) ((W.take (W.length - 1)).drop cut) hh
      rw [hsp, h1] at this
      rw [← this] at hh; cases hh
  have happ := takeA_app RdI.zero (W.take cut) ((W.take (W.length - 1)).drop cut) hok
  rw [hsp, h1] at happ
  have h10 : ¬ (takeA ⟨0, 0, 0, 0⟩ (W.take cut)).1.st = 10 := by
    intro e
    rw [takeA_done e] at happ
    have := congrArg (fun q => q.1.st) happ
    dsimp only at this
    omega
  have hrun : takeA ⟨0, 0, 0, 0⟩ (W.take cut) = runA ⟨0, 0, 0, 0⟩ (W.take cut) [] 0 := if_neg (by decide)
  have hk := runA_all (W.take cut) ⟨0, 0, 0, 0⟩ [] 0 (hrun ▸ hok) (by rw [← hrun]; exact h10)
  rw [← hrun, hlen, Nat.zero_add] at hk
  clear happ hrun
  obtain ⟨⟨r, d, k, ok⟩, hq⟩ : ∃ q, takeA ⟨0, 0, 0, 0⟩ (W.take cut) = q := ⟨_, rfl⟩
  rw [hq] at hok hk h10
  dsimp only at hok hk h10
  subst hok hk
  exact ⟨r, d, hq, h10⟩

/-- what the three bodies come to, cut off -/
def ShF (kk n0 want : Int) (cut : Nat) (L : List UInt8) : Prop :=
  newOk kk n0 = true ∧ (cut < L.length → ∃ r2 d, frTake (frNew kk n0) (L.take cut) = (r2, d, cut, true) ∧ frDone r2 = false ∧ endN (frDone (endR r2)) = want ∧ FrI r2)

theorem shf_1 (l : List UInt8) (cut : Nat) (hl : l.length ≤ 200) : ShF 1 (l.length : Int) 13 cut l := by
  have hn : newOk 1 (l.length : Int) = true := by
    unfold newOk
    rw [decide_eq_true (show (0 : Int) ≤ (l.length : Int) by omega), decide_eq_true (show (l.length : Int) ≤ 1099511627776 by omega)]
    rfl
  refine ⟨hn, fun h => ?_⟩
  have hm : min ((l.take cut).length : Int) (l.length : Int) = (cut : Int) := by rw [List.length_take]; omega
  have hI := frTake_I (frNew_I hn) (l.take cut)
  have e : frTake (frNew 1 (l.length : Int)) (l.take cut) = (⟨1, (l.length : Int) - cut, false, ⟨0, 0, 0, 0⟩⟩, l.take cut, cut, true) := by
    unfold frTake frNew
    dsimp only
    rw [if_neg (by simp), if_neg (by decide), if_pos rfl, hm, Int.toNat_natCast, List.take_take, Nat.min_eq_right (by omega), List.length_take, Nat.min_eq_left (show cut ≤ l.length by omega), Nat.min_eq_left (by omega)]
  rw [e] at hI
  refine ⟨_, _, e, ?_, ?_, hI⟩
  · show ((l.length : Int) - cut == 0) = false
    exact beq_eq_false_iff_ne.2 (by omega)
  · show endN ((l.length : Int) - cut == 0) = 13
    rw [beq_eq_false_iff_ne.2 (show (l.length : Int) - cut ≠ 0 by omega)]
    rfl
theorem shf_2 (l : List UInt8) (n cut : Nat) (hl : l.length ≤ 200) : ShF 2 0 13 cut (wholeL l n) := by
  refine ⟨rfl, fun h => ?_⟩
  obtain ⟨r, d, h1, h2⟩ := whole_cut l n cut (by omega) h
  have hI := frTake_I (frNew_I (show newOk 2 0 = true from rfl)) ((wholeL l n).take cut)
  have e : frTake (frNew 2 0) ((wholeL l n).take cut) = (⟨2, 0, false, r⟩, d, cut, true) := by
    unfold frNew
    rw [frTake_2, h1]
  rw [e] at hI
  refine ⟨_, _, e, ?_, ?_, hI⟩
  · show (r.st == 10) = false
    exact beq_eq_false_iff_ne.2 h2
  · show endN (r.st == 10) = 13
    rw [beq_eq_false_iff_ne.2 h2]
    rfl
theorem shf_3 (l : List UInt8) (cut : Nat) : ShF 3 0 0 cut l := by
  refine ⟨rfl, fun h => ?_⟩
  have hI := frTake_I (frNew_I (show newOk 3 0 = true from rfl)) (l.take cut)
  have e : frTake (frNew 3 0) (l.take cut) = (⟨3, 0, false, ⟨0, 0, 0, 0⟩⟩, l.take cut, cut, true) := by
    unfold frTake frNew
    dsimp only
    rw [if_neg (by simp), if_neg (by decide), if_neg (by decide), List.length_take, Nat.min_eq_left (by omega)]
  rw [e] at hI
  exact ⟨_, _, e, rfl, rfl, hI⟩

set_option maxHeartbeats 2000000 in
set_option maxRecDepth 100000 in
theorem Short_big (w : World) (hG : Gw w) (ao : Option Addr) (l c : Nat) (k m : Int) (h : 200 < l ∨ k < 1 ∨ m < 0) :
    Calls Tryd.prog 6 #[.slice ao l c, .int .i64 k, .int .i64 m] w fun e w' => e = .returned (.bool true) ∧ Below w.heap.size w w' := by
  have HG := Lib.hid hG
  clear hG
  obtain ⟨q1, t1⟩ : ∃ q, decide ((200 : Int) < (l : Int)) = q := ⟨_, rfl⟩
  obtain ⟨q2, t2⟩ : ∃ q, decide (k < (1 : Int)) = q := ⟨_, rfl⟩
  obtain ⟨q3, t3⟩ : ∃ q, decide (m < (0 : Int)) = q := ⟨_, rfl⟩
  have hq : (q1 || (q2 || q3)) = true := by
    rw [← t1, ← t2, ← t3]; simp; omega
  clear h
  go_enter Tryd.func6, Tryd.ntmps6
  go_wp2_with fail
  refine (awake_calls _ HG.out).mono ?_
  rintro e w1 ⟨rfl, hb1⟩
  have HB1 := Lib.hid hb1
  clear hb1
  cases q1
  · cases q2
    · cases q3
      · cases hq
      · go_wp2_with fail
        refine (awake_calls _ (HG.out.below HB1.out)).mono ?_
        rintro e w2 ⟨rfl, hb2⟩
        have HB2 := Lib.hid (HB1.out.trans (hb2.mono HB1.out.size))
        clear hb2
        go_wp2_with fail
        go_ret
        exact ⟨rfl, HB2.out⟩
    · go_wp2_with fail
      refine (awake_calls _ (HG.out.below HB1.out)).mono ?_
      rintro e w2 ⟨rfl, hb2⟩
      have HB2 := Lib.hid (HB1.out.trans (hb2.mono HB1.out.size))
      clear hb2
      go_wp2_with fail
      go_ret
      exact ⟨rfl, HB2.out⟩
  · go_wp2_with fail
    refine (awake_calls _ (HG.out.below HB1.out)).mono ?_
    rintro e w2 ⟨rfl, hb2⟩
    have HB2 := Lib.hid (HB1.out.trans (hb2.mono HB1.out.size))
    clear hb2
    go_wp2_with fail
    go_ret
    exact ⟨rfl, HB2.out⟩

set_option maxHeartbeats 8000000 in
set_option maxRecDepth 100000 in
theorem Short_calls (w : World) (hG : Gw w) (ao : Option Addr) (l : List UInt8) (c : Nat) (hlc : l.length ≤ c) (h1 : Bs w ao l) (hn1 : ao = none → c = 0) (k0 : Int) (hk0 : (Lit.int .i64 k0).wf = true) (m0 : Int) (hm0 : (Lit.int .i64 m0).wf = true) :
    Calls Tryd.prog 6 #[.slice ao l.length c, .int .i64 k0, .int .i64 m0] w fun e w' => e = .returned (.bool true) ∧ Below w.heap.size w w' := by
  by_cases hbig : 200 < l.length ∨ k0 < 1 ∨ m0 < 0
  · exact Short_big w hG ao _ c k0 m0 hbig
  obtain ⟨n, rfl⟩ : ∃ n : Nat, k0 = n := ⟨k0.toNat, by omega⟩
  obtain ⟨m, rfl⟩ : ∃ m : Nat, m0 = m := ⟨m0.toNat, by omega⟩
  have t1 : decide ((200 : Int) < (l.length : Int)) = false := decide_eq_false (by omega)
  have t2 : decide ((n : Int) < (1 : Int)) = false := decide_eq_false (by omega)
  have t3 : decide ((m : Int) < (0 : Int)) = false := decide_eq_false (by omega)
  have HG := Lib.hid hG
  have HX := Lib.hid hG.gv.lt
  have H1 := Lib.hid h1
  have HN1 := Lib.hid hn1
  have HL : Hid (l.length ≤ 200) := Lib.hid (by omega)
  have HLC := Lib.hid hlc
  have HK : Hid (1 ≤ n ∧ n ≤ 9223372036854775807) := Lib.hid (by
    have h1' : IntKind.i64.max = 9223372036854775807 := rfl
    simp [Lit.wf, h1'] at hk0
    omega)
  clear hG h1 hn1 hlc hbig hk0 hm0
  obtain ⟨W, hW⟩ : ∃ W, wholeL l n = W := ⟨_, rfl⟩
  have HW := Lib.hid hW
  have HWL : Hid (W.length ≤ 20000) := Lib.hid (hW ▸ (chunks_eq l [] n HK.out.1 (by have := HL.out; omega)).2)
  have HF1 := Lib.hid (shf_1 l m HL.out)
  have HF2 : Hid (ShF 2 0 13 m W) := Lib.hid (hW ▸ shf_2 l n m HL.out)
  have HF3 := Lib.hid (shf_3 l m)
  clear hW
  go_enter Tryd.func6, Tryd.ntmps6
  go_wp2_with fail
  refine (awake_calls _ HG.out).mono ?_
  rintro e w1 ⟨rfl, hb1⟩
  have HB1 := Lib.hid hb1
  clear hb1
  go_wp2_with fail
  refine (rWhole_calls w1 ao l c (by have := HL.out; omega) HLC.out (H1.out.below HB1.out) HN1.out n HK.out.1 HK.out.2).mono ?_
  rw [HW.out]
  rintro e w3 ⟨v0, rfl, ho0, hb0⟩
  obtain ⟨a0, c0, rfl, hs0, hc0, -, hn0⟩ := ho0.bs'
  have HS0 := Lib.hid hs0
  have HC0 := Lib.hid hc0
  have HN0 := Lib.hid hn0
  have HB3 : Hid (Below w.heap.size w w3) := Lib.hid (HB1.out.trans (hb0.mono HB1.out.size))
  clear ho0 hb0 hs0 hc0 hn0 HB1
  go_wp2_with fail
  go_loopw [45] (fun v45 wr => ∃ k : Nat, v45 = .int .i64 k ∧ k ≤ 3 ∧ Below w3.heap.size w3 wr ∧ wr.heap[w3.heap.size]? = some (.cells #[.slice ao l.length c, .slice a0 W.length c0, .slice ao l.length c] 43 (0, 0))) (fun v45 _ => 3 - (intOf v45).toNat)
  case atStart => exact ⟨0, rfl, by decide, (Below.refl _ w3).alloc (Nat.le_refl _) _, heap_alloc_new w3 _⟩
  case round =>
    obtain ⟨k, rfl, hk, hb, hg⟩ := hrel
    by_cases h3 : k = 3
    · subst h3
      have HB : Hid (Below w.heap.size w wr) := Lib.hid (HB3.out.trans (hb.mono HB3.out.size))
      clear hb hg hk
      go_wp2_with fail
      go_ret
      exact ⟨rfl, HB.out⟩
    · have e0 := (blk_cell hg 0).trans rfl
      have e1 := (blk_cell hg 1).trans rfl
      have e2 := (blk_cell hg 2).trans rfl
      have HB := Lib.hid hb
      have HGG := Lib.hid hg
      have hcase : ∃ (kk n0 want : Int) (aL : Option Addr) (L : List UInt8) (cL : Nat), ShF kk n0 want m L ∧ Bs wr aL L ∧ L.length ≤ cL ∧ (aL = none → cL = 0) ∧ L.length ≤ 20000 ∧
          ((k = 0 ∧ kk = 1 ∧ n0 = (l.length : Int) ∧ want = 13 ∧ aL = ao ∧ L = l ∧ cL = c) ∨ (k = 1 ∧ kk = 2 ∧ n0 = 0 ∧ want = 13 ∧ aL = a0 ∧ L = W ∧ cL = c0) ∨ (k = 2 ∧ kk = 3 ∧ n0 = 0 ∧ want = 0 ∧ aL = ao ∧ L = l ∧ cL = c)) := by
        have hbw : Below w.heap.size w wr := HB3.out.trans (hb.mono HB3.out.size)
        have hl2 : l.length ≤ 20000 := by have := HL.out; omega
        rcases (show k = 0 ∨ k = 1 ∨ k = 2 by omega) with rfl | rfl | rfl
        · exact ⟨1, l.length, 13, ao, l, c, HF1.out, H1.out.below hbw, HLC.out, HN1.out, hl2, .inl ⟨rfl, rfl, rfl, rfl, rfl, rfl, rfl⟩⟩
        · exact ⟨2, 0, 13, a0, W, c0, HF2.out, HS0.out.below hb, HC0.out, HN0.out, HWL.out, .inr (.inl ⟨rfl, rfl, rfl, rfl, rfl, rfl, rfl⟩)⟩
        · exact ⟨3, 0, 0, ao, l, c, HF3.out, H1.out.below hbw, HLC.out, HN1.out, hl2, .inr (.inr ⟨rfl, rfl, rfl, rfl, rfl, rfl, rfl⟩)⟩
      clear hb hg hk h3
      obtain ⟨kk, n0, want, aL, L, cL, ⟨hnew, hfr⟩, hbs, hcl, hcn, hll, hcase⟩ := hcase
      have HNEW := Lib.hid hnew
      have HFR := Lib.hid hfr
      have HBS := Lib.hid hbs
      have HCL := Lib.hid hcl
      have HCN := Lib.hid hcn
      have HLL := Lib.hid hll
      clear hnew hfr hbs hcl hcn hll
      rcases hcase with ⟨rfl, rfl, rfl, rfl, rfl, rfl, rfl⟩ | ⟨rfl, rfl, rfl, rfl, rfl, rfl, rfl⟩ | ⟨rfl, rfl, rfl, rfl, rfl, rfl, rfl⟩
      all_goals
        by_cases hcut : m < L.length
        · obtain ⟨r2, d, hq, hd, he, hi⟩ := HFR.out hcut
          obtain ⟨P, hP⟩ : ∃ P, L.take m = P := ⟨_, rfl⟩
          have hPm : P.length = m := by rw [← hP, List.length_take]; omega
          have HBP : Hid (Bs wr aL P) := Lib.hid (hP ▸ HBS.out.take m)
          rw [hP] at hq
          have HQ := Lib.hid hq
          have HI := Lib.hid hi
          have HPM := Lib.hid hPm
          have hsl := fun W => run_sliceTo W aL L.length cL m (by have := HCL.out; omega)
          have HMM : Hid (m ≤ 20000) := Lib.hid (by have := HLL.out; omega)
          clear hq hi hP hPm
          go_wp2_with fail
          refine (fNew_ok _ _ _ HNEW.out).mono ?_
          rintro e w5 ⟨g, rfl, hr5, hb5⟩
          obtain ⟨gc, hgc⟩ : ∃ gc, (wr.alloc (.cells #[.int .i64 1, .int .i64 2, .int .i64 3] 3)).heap.size = gc := ⟨_, rfl⟩
          have hx5 : Below wr.heap.size wr w5 := ((Below.refl wr.heap.size wr).alloc (Nat.le_refl _) (.cells #[.int .i64 1, .int .i64 2, .int .i64 3] 3)).trans (hb5.mono (by simp))
          rw [hgc] at hr5
          have HO : Hid (wr.heap.size < gc ∧ gc < g) := Lib.hid ⟨by rw [← hgc]; simp, hr5.1⟩
          have HR5 := Lib.hid hr5
          have HX5 := Lib.hid hx5
          have HW := Lib.hid (Ow.lit0 w5 w5.heap.size (Nat.le_refl _))
          have HBW := Lib.hid ((Below.refl w5.heap.size w5).alloc (Nat.le_refl _) (.cells #[] 5))
          have HBs := Lib.hid ((HBP.out.below HX5.out).below HBW.out)
          have HS1 : Hid (([] : List UInt8).length + m ≤ 70368744177664) := Lib.hid (by have := HMM.out; simp; omega)
          have et : errN true = 0 := rfl
          clear hr5 hx5 hb5 hgc
          go_wp2_with (at_builtin; refine wp_app rfl _ _ rfl w5.heap.size (.slice (some ⟨w5.heap.size, 0, none⟩) 0 0) _ rfl HW.out aL _ _ rfl P HPM.out HBs.out HCN.out HS1.out HBW.out.size ?_; intro v6 w6 hown hgr _; have HB6 := Lib.hid (Below.own HBW.out HW.out hgr (Nat.le_refl _)); rw [List.nil_append] at hown; obtain ⟨a6, c6, rfl, hs6, hc6, -, hn6⟩ := hown.bs'; have HS6 := Lib.hid hs6; have HC6 := Lib.hid hc6; have HN6 := Lib.hid hn6; clear hown hgr HW hs6 hc6 hn6)
          have HR6 := Lib.hid (HR5.out.below HB6.out)
          have HX6 := Lib.hid (HX5.out.trans (HB6.out.mono HX5.out.size))
          have HGW : Hid (Gw w6) := Lib.hid (HG.out.below (HB3.out.trans ((HB.out.trans (HX6.out.mono HB.out.size)).mono HB3.out.size)))
          have HZ : Hid (w.heap.size ≤ w3.heap.size ∧ w3.heap.size < wr.heap.size) := Lib.hid ⟨HB3.out.size, lt_of_block HGG.out⟩
          refine (fTake_any w6 g gc _ (frNew_I HNEW.out) HR6.out HGW.out.gv.es (by have := HX.out; have := HZ.out; have := HO.out; omega) a6 P (by have := HPM.out; have := HMM.out; omega) c6 HC6.out HN6.out HS6.out).mono ?_
          rw [HQ.out]
          rintro e w7 ⟨a7, c7, rfl, -, hr7, hc7⟩
          have HR7 := Lib.hid hr7
          have HC7 := Lib.hid ((Ch.of_below HX6.out).trans hc7)
          clear hr7 hc7
          go_wp2_with (first
            | (go_at_call 17; with_reducible refine (fDone_calls w7 g gc _ HI.out HR7.out).mono ?_; rintro e w' ⟨rfl, rfl⟩)
            | (go_at_call 20; with_reducible refine (fEnd_calls _ g gc _ HI.out (HR7.out.below ((Below.refl _ w7).alloc (Nat.le_refl _) _))).mono ?_; rintro e w8 ⟨rfl, hr8, hc8⟩; have HC8 := Lib.hid ((HC7.out.alloc _).trans hc8); clear hr8 hc8))
          have HB8 := Lib.hid (fch_below HB.out HC8.out (by have := HZ.out; have := HO.out; omega) HO.out.2)
          have HG8 := Lib.hid ((HC8.out.block w3.heap.size HZ.out.2 (by have := HZ.out; have := HO.out; omega)).trans HGG.out)
          go_roundw
          case rel => exact ⟨_, rfl, by decide, HB8.out, HG8.out⟩
          case measure => simp [intOf]
        · have HCUT := Lib.hid hcut
          go_wp2_with fail
          go_roundw
          case rel => exact ⟨_, rfl, by decide, HB.out, HGG.out⟩
          case measure => simp [intOf]
end Go.Proofs.YteneioapchhehaaDoor
