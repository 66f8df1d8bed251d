/- FrameDone: the law's walk. -/
import Derived.Test.YteneioapchhehaaDoorFrG
namespace Go.Proofs.YteneioapchhehaaDoor
open Go.RowKit

set_option maxRecDepth 100000 in
theorem open_arr2 {H : Type} {enc : TypeId × Value → H} {W : World} {r : Go.Reach} {base base' : Nat} {sp : Nat → Bool} {held : Bool} {v : Value} {d : DataW H} {p : List MemPlace} (hok : Value.okWide Tryd.prog W r base 54 v) (h : DataW.Trod enc Tryd.prog W base' sp held 54 v d p) :
    ∃ a b, v = .agg #[.int .i64 a, .int .i64 b] ∧ (Lit.int .i64 a).wf = true ∧ (Lit.int .i64 b).wf = true := by
  simp only [Value.okWide, Tryd.underlying54] at hok
  obtain ⟨cs, rfl, hs, -⟩ := hok
  have hc2 : Tryd.prog.cellsOf 54 = 2 := by kernel_rfl
  have hc1 : Tryd.prog.cellsOf 2 = 1 := by kernel_rfl
  rw [hc2] at hs
  obtain ⟨c0, c1, rfl⟩ : ∃ c0 c1, cs = #[c0, c1] := by
    obtain ⟨l⟩ := cs
    match l, hs with
    | [c0, c1], _ => exact ⟨c0, c1, rfl⟩
  obtain ⟨fuel, hf⟩ := h
  obtain ⟨xs, m, -, -, -, hl, hx⟩ := DataW.trod_array Tryd.underlying54 hf
  have h0 := hx 0 (by decide)
  have h1 := hx 1 (by decide)
  rw [hc1, List.getElem?_eq_getElem (by omega)] at h0 h1
  obtain ⟨a, ha, -, wa⟩ := DataW.trod_int Tryd.underlying2 h0
  obtain ⟨b, hb, -, wb⟩ := DataW.trod_int Tryd.underlying2 h1
  simp [Value.cells] at ha hb
  subst ha hb
  exact ⟨a, b, rfl, wa, wb⟩

theorem frTake_done {r : Fr} (h : frDone r = true) (h3 : ¬ r.k = 3) (hi : FrI r) (L : BL) : frTake r L = (r, [], 0, true) := by
  unfold frTake
  split
  · rfl
  · rename_i he
    split
    · rename_i h2
      unfold frDone at h
      rw [if_neg (by omega), if_pos h2] at h
      rw [takeA_done (by simpa using h)]
    · rename_i h2
      have h1 : r.k = 1 := by have := hi.k; omega
      rw [if_pos h1]
      unfold frDone at h
      rw [if_pos h1] at h
      have h0 : r.left = 0 := by simpa using h
      obtain ⟨k, left, ended, ch⟩ := r
      dsimp only at h0
      subst h0
      have e : min ((L.length : Nat) : Int) 0 = 0 := by omega
      simp [e]
theorem frTake_k (r : Fr) (L : BL) : (frTake r L).1.k = r.k := by
  unfold frTake
  split
  · rfl
  · split
    · rfl
    · split <;> rfl
theorem frTake_end (r : Fr) (L : BL) : frTake (endR r) L = (endR r, [], 0, true) := if_pos (.inl rfl)
theorem endN_eq (b : Bool) : ((endN b == 0) == b) = true := by cases b <;> rfl

/-- the reader, somewhere behind a world -/
def FrW (w0 : World) (g gc : Nat) (k : Int) (wr : World) : Prop := ∃ r, FrI r ∧ r.k = k ∧ FrAt wr g gc r ∧ Below w0.heap.size w0 wr

theorem FrW.mk' {w0 w1 w2 w3 : World} {g gc : Nat} {k : Int} {r2 : Fr} (hi : FrI r2) (hk : r2.k = k) (h : FrAt w3 g gc r2) (hb : Below w0.heap.size w0 w1) (hx : Below w1.heap.size w1 w2) (hc : Ch (fun k => k = g ∨ k = gc) w2 w3) (ho : w0.heap.size ≤ gc ∧ gc < g) : FrW w0 g gc k w3 :=
  ⟨r2, hi, hk, h, fch_below (hb.trans (hx.mono hb.size)) hc ho.1 ho.2⟩

set_option maxHeartbeats 8000000 in
set_option maxRecDepth 100000 in
theorem DoneF_calls (w : World) (hG : Gw w) (k n : Int) (ao : Option Addr) (ls : List (Option Addr × List UInt8 × Nat)) (c : Nat) (hlc : ls.length ≤ c) (h1 : Bss w ao ls) (hr : ls.length ≤ reachBytes)
    (mo : Option Addr) (more : List UInt8) (d : Nat) (_ : more.length ≤ d) (h3 : Bs w mo more) (hn3 : mo = none → d = 0) :
    Calls Tryd.prog 7 #[.agg #[.int .i64 k, .int .i64 n], .slice ao ls.length c, .slice mo more.length d] w fun e w' => e = .returned (.bool true) ∧ Below w.heap.size w w' := by
  have hb0 := (Below.refl w.heap.size w).alloc (Nat.le_refl _) (.cells #[.int .i64 k, .int .i64 n] 54)
  have hc0 := heap_alloc_new w (.cells #[.int .i64 k, .int .i64 n] 54)
  obtain ⟨w0, hw0⟩ : ∃ w0, w.alloc (.cells #[.int .i64 k, .int .i64 n] 54) = w0 := ⟨_, rfl⟩
  rw [hw0] at hb0 hc0
  have HB0 := Lib.hid hb0
  have HW0 := Lib.hid hw0
  have HG := Lib.hid (hG.below hb0)
  have H1 := Lib.hid (BssF.below h1 hb0)
  have H3 := Lib.hid (h3.below hb0)
  have HCL : Hid (∀ W, Below w0.heap.size w0 W → W.cell? ⟨w.heap.size, 0, none⟩ = some (.int .i64 k) ∧ W.cell? ⟨w.heap.size, 1, none⟩ = some (.int .i64 n)) := Lib.hid (fun W h => by
    have := (h.block _ (lt_of_block hc0)).trans hc0
    exact ⟨blk_cell this 0, blk_cell this 1⟩)
  have HLC := Lib.hid hlc
  have HR := Lib.hid hr
  have HN3 := Lib.hid hn3
  clear hG h1 h3 hlc hr hn3 hb0 hc0 hw0
  obtain ⟨q1, t1⟩ : ∃ q, decide ((100 : Int) < (more.length : Int)) = q := ⟨_, rfl⟩
  obtain ⟨q2, t2⟩ : ∃ q, decide (k < (1 : Int)) = q := ⟨_, rfl⟩
  obtain ⟨q3, t3⟩ : ∃ q, decide ((4 : Int) < k) = q := ⟨_, rfl⟩
  have HT1 : Hid (q1 = false → more.length ≤ 100) := Lib.hid (fun h => by subst h; have := of_decide_eq_false t1; omega)
  go_enter Tryd.func7, Tryd.ntmps7
  go_wp2_with fail
  rw [HW0.out]
  refine (awake_calls w0 HG.out).mono ?_
  rintro e w1 ⟨rfl, hb1⟩
  have HB1 := Lib.hid hb1
  clear hb1
  go_wp2_with fail
  refine (GreatB_calls w1 ao ls c HLC.out (BssF.below H1.out HB1.out) HR.out).mono ?_
  rintro e w' ⟨⟨b, rfl, hb⟩, rfl⟩
  obtain ⟨e0, e1⟩ := HCL.out w1 HB1.out
  have hsplit : b = true ∨ (b = false ∧ q1 = true) ∨ (b = false ∧ q1 = false ∧ q2 = true) ∨ (b = false ∧ q1 = false ∧ q2 = false ∧ q3 = true) ∨ (b = false ∧ q1 = false ∧ q2 = false ∧ q3 = false) := by
    cases b <;> cases q1 <;> cases q2 <;> cases q3 <;> simp
  rcases hsplit with rfl | ⟨rfl, rfl⟩ | ⟨rfl, rfl, rfl⟩ | ⟨rfl, rfl, rfl, rfl⟩ | ⟨rfl, rfl, rfl, rfl⟩
  rotate_right
  · have HS := Lib.hid (hb rfl)
    have HM : Hid (more.length ≤ 100) := Lib.hid (HT1.out rfl)
    clear hb HT1
    cases hk : newOk k n with
    | false =>
      have HK := Lib.hid hk
      clear hk
      go_wp2_with fail
      refine (fNew_no w1 k n HK.out).mono ?_
      rintro e w' ⟨rfl, rfl⟩
      go_wp2_with fail
      go_ret
      exact ⟨rfl, HB0.out.trans (HB1.out.mono HB0.out.size)⟩
    | true =>
      have HK := Lib.hid hk
      have HKN : Hid ((frNew k n).k = k) := Lib.hid rfl
      clear hk
      go_wp2_with fail
      refine (fNew_ok w1 k n HK.out).mono ?_
      rintro e w2 ⟨g, rfl, hr2, hb2⟩
      obtain ⟨gc, hgc⟩ : ∃ gc, w1.heap.size = gc := ⟨_, rfl⟩
      rw [hgc] at hr2
      have HO : Hid (w0.heap.size ≤ gc ∧ gc < g) := Lib.hid ⟨hgc ▸ HB1.out.size, hr2.1⟩
      have HREL0 : Hid (FrW w0 g gc k w2) := Lib.hid ⟨_, frNew_I HK.out, HKN.out, hr2, HB1.out.trans (hb2.mono HB1.out.size)⟩
      have HGC : Hid (0 < gc) := Lib.hid (Nat.lt_of_lt_of_le HG.out.gv.lt.2 HO.out.1)
      have hll : ls.length ≤ 600 := Nat.le_trans (gsum_len ls) HS.out
      clear hr2 hb2 hgc e0 e1
      go_wp2_with fail
      go_loopw [63] (fun v63 wr => ∃ j : Nat, v63 = .int .i64 j ∧ j ≤ ls.length ∧ FrW w0 g gc k wr) (fun v63 _ => ls.length - (intOf v63).toNat)
      case atStart => exact ⟨0, rfl, Nat.zero_le _, HREL0.out⟩
      case round =>
        clear HREL0
        obtain ⟨j, rfl, hj, r, hi, hrk, hr, hB⟩ := hrel
        have HI := Lib.hid hi
        have HRK := Lib.hid hrk
        have HRR := Lib.hid hr
        have HB := Lib.hid hB
        clear hi hrk hr hB
        obtain ⟨D, hD⟩ : ∃ D, frDone r = D := ⟨_, rfl⟩
        have hcase : (j < ls.length ∧ D = false) ∨ (j < ls.length ∧ D = true) ∨ (¬ j < ls.length) := by
          by_cases h : j < ls.length
          · cases D
            · exact .inl ⟨h, rfl⟩
            · exact .inr (.inl ⟨h, rfl⟩)
          · exact .inr (.inr h)
        rcases hcase with ⟨hkl, rfl⟩ | hcase
        · obtain ⟨bb, off, bo, l, cb, rfl, hx, hcell, hbs, hbc, hbn, -⟩ := BssF.nth (BssF.below H1.out HB.out) hkl
          have hl6 : l.length ≤ 600 := by have := gsum_mem (List.mem_of_getElem? hx); have := HS.out; dsimp only at *; omega
          have HL6 := Lib.hid hl6
          have HBN := Lib.hid hbn
          have HKL := Lib.hid hkl
          have HK2 : Hid (wrap64 ((j : Int) + 1) = ((j + 1 : Nat) : Int)) := Lib.hid (by rw [IntWalk.wrap64_in _ (by omega)]; rfl)
          have HW := Lib.hid (Ow.lit0 wr wr.heap.size (Nat.le_refl _))
          have HBW := Lib.hid ((Below.refl wr.heap.size wr).alloc (Nat.le_refl _) (.cells #[] 5))
          have HBs := Lib.hid (hbs.below HBW.out)
          have HS1 : Hid (([] : List UInt8).length + l.length ≤ 70368744177664) := Lib.hid (by simp; omega)
          clear hx hbs hbc hbn hl6
          go_wp2_with (first
            | (go_at_call 17; with_reducible refine (fDone_calls wr g gc r HI.out HRR.out).mono ?_; rintro e w' ⟨rfl, rfl⟩)
            | (at_builtin; refine wp_app rfl _ _ rfl wr.heap.size (.slice (some ⟨wr.heap.size, 0, none⟩) 0 0) _ rfl HW.out bo _ _ rfl l rfl HBs.out HBN.out HS1.out HBW.out.size ?_; intro v5 w5 hown hgr _; have HB5 := Lib.hid (Below.own HBW.out HW.out hgr (Nat.le_refl _)); rw [List.nil_append] at hown; obtain ⟨a5, c5, rfl, hs5, hc5, -, hn5⟩ := hown.bs'; have HS5 := Lib.hid hs5; have HC5 := Lib.hid hc5; have HN5 := Lib.hid hn5; clear hown hgr HW hs5 hc5 hn5))
          have HR5 := Lib.hid (HRR.out.below HB5.out)
          have HGW : Hid (Gw w5) := Lib.hid (HG.out.below (HB.out.trans (HB5.out.mono HB.out.size)))
          refine (fTake_any w5 g gc r HI.out HR5.out HGW.out.gv.es HGC.out a5 l (by have := HL6.out; omega) c5 HC5.out HN5.out HS5.out).mono ?_
          rintro e w6 ⟨a6, c6, rfl, -, hr6, hc6⟩
          have HREL := Lib.hid (FrW.mk' (frTake_I HI.out l) ((frTake_k r l).trans HRK.out) hr6 HB.out HB5.out hc6 HO.out)
          clear hr6 hc6
          go_wp2_with fail
          go_roundw
          case rel => exact ⟨j + 1, by first | rfl | rw [HK2.out], HKL.out, HREL.out⟩
          case measure => have := HKL.out; (try rw [HK2.out]); simp [intOf]; omega
        · have HSM : Hid (([] : List UInt8).length + more.length ≤ 70368744177664) := Lib.hid (by have := HM.out; simp; omega)
          obtain ⟨x0, -⟩ := HCL.out wr HB.out
          have hsp : (D = true ∧ ¬ k = 3) ∨ (D = false ∨ (D = true ∧ k = 3)) := by
            cases D
            · exact .inr (.inl rfl)
            · by_cases h : k = 3
              · exact .inr (.inr ⟨rfl, h⟩)
              · exact .inl ⟨rfl, h⟩
          rcases hsp with ⟨rfl, hk3⟩ | hsp
          · have hkb : (k != 3) = true := bne_iff_ne.2 hk3
            have HFD : Hid (frTake r more = (r, [], 0, true)) := Lib.hid (frTake_done hD (by rw [HRK.out]; exact hk3) HI.out more)
            have HW := Lib.hid (Ow.lit0 wr wr.heap.size (Nat.le_refl _))
            have HBW := Lib.hid ((Below.refl wr.heap.size wr).alloc (Nat.le_refl _) (.cells #[] 5))
            have HBs := Lib.hid ((H3.out.below HB.out).below HBW.out)
            clear hk3
            rcases hcase with ⟨hkl, -⟩ | hkl
            · obtain ⟨bb, off, bo, l, cb, rfl, -, hcell, -, -, -, -⟩ := BssF.nth (BssF.below H1.out HB.out) hkl
              go_wp2_with (first
                | (go_at_call 17; with_reducible refine (fDone_calls wr g gc r HI.out HRR.out).mono ?_; rintro e w' ⟨rfl, rfl⟩)
                | (at_builtin; refine wp_app rfl _ _ rfl wr.heap.size (.slice (some ⟨wr.heap.size, 0, none⟩) 0 0) _ rfl HW.out mo _ _ rfl more rfl HBs.out HN3.out HSM.out HBW.out.size ?_; intro v5 w5 hown hgr _; have HB5 := Lib.hid (Below.own HBW.out HW.out hgr (Nat.le_refl _)); rw [List.nil_append] at hown; obtain ⟨a5, c5, rfl, hs5, hc5, -, hn5⟩ := hown.bs'; have HS5 := Lib.hid hs5; have HC5 := Lib.hid hc5; have HN5 := Lib.hid hn5; clear hown hgr HW hs5 hc5 hn5))
              have HR5 := Lib.hid (HRR.out.below HB5.out)
              have HB5' : Hid (Below w0.heap.size w0 w5) := Lib.hid (HB.out.trans (HB5.out.mono HB.out.size))
              refine (fTake_any w5 g gc r HI.out HR5.out (HG.out.below HB5'.out).gv.es HGC.out a5 more (by have := HM.out; omega) c5 HC5.out HN5.out HS5.out).mono ?_
              rw [HFD.out]
              rintro e w6 ⟨a6, c6, rfl, -, hr6, hc6⟩
              have HR6 := Lib.hid hr6
              have HB6 := Lib.hid (fch_below HB5'.out hc6 HO.out.1 HO.out.2)
              obtain ⟨x6, -⟩ := HCL.out w6 HB6.out
              have et : errN true = 0 := rfl
              clear hr6 hc6
              go_wp2_with (first
                | (go_at_call 17; with_reducible refine (fDone_calls w6 g gc r HI.out HR6.out).mono ?_; rintro e w' ⟨rfl, rfl⟩)
                | (go_at_call 20; with_reducible refine (fEnd_calls w6 g gc r HI.out HR6.out).mono ?_; rintro e w7 ⟨rfl, hr7, hc7⟩; have HR7 := Lib.hid hr7; have HB7 := Lib.hid (fch_below HB6.out hc7 HO.out.1 HO.out.2); clear hr7 hc7; have HW := Lib.hid (Ow.lit0 w7 w7.heap.size (Nat.le_refl _)); have HBW := Lib.hid ((Below.refl w7.heap.size w7).alloc (Nat.le_refl _) (.cells #[] 5)); have HBs := Lib.hid ((H3.out.below HB7.out).below HBW.out))
                | (go_at_call 17; with_reducible refine (fDone_calls w7 g gc (endR r) HI.out.end HR7.out).mono ?_; rintro e w' ⟨rfl, rfl⟩)
                | (at_builtin; refine wp_app rfl _ _ rfl w7.heap.size (.slice (some ⟨w7.heap.size, 0, none⟩) 0 0) _ rfl HW.out mo _ _ rfl more rfl HBs.out HN3.out HSM.out HBW.out.size ?_; intro v9 w9 hown hgr _; have HB9 := Lib.hid (Below.own HBW.out HW.out hgr (Nat.le_refl _)); rw [List.nil_append] at hown; obtain ⟨a9, c9, rfl, hs9, hc9, -, hn9⟩ := hown.bs'; have HS9 := Lib.hid hs9; have HC9 := Lib.hid hc9; have HN9 := Lib.hid hn9; clear hown hgr HW hs9 hc9 hn9))
              have HR9 := Lib.hid (HR7.out.below HB9.out)
              have HB9' : Hid (Below w0.heap.size w0 w9) := Lib.hid (HB7.out.trans (HB9.out.mono HB7.out.size))
              refine (fTake_any w9 g gc (endR r) HI.out.end HR9.out (HG.out.below HB9'.out).gv.es HGC.out a9 more (by have := HM.out; omega) c9 HC9.out HN9.out HS9.out).mono ?_
              rw [frTake_end]
              rintro e w10 ⟨a10, c10, rfl, -, hr10, hc10⟩
              have HR10 := Lib.hid hr10
              have HB10 := Lib.hid (fch_below HB9'.out hc10 HO.out.1 HO.out.2)
              have hee : (endN (frDone (endR (endR r))) == endN (frDone (endR r))) = true := by simp [endR]
              have hen := endN_eq (frDone (endR r))
              clear hr10 hc10
              go_wp2_with (first
                | (go_at_call 17; with_reducible refine (fDone_calls w10 g gc (endR r) HI.out.end HR10.out).mono ?_; rintro e w' ⟨rfl, rfl⟩)
                | (go_at_call 20; with_reducible refine (fEnd_calls w10 g gc (endR r) HI.out.end HR10.out).mono ?_; rintro e w11 ⟨rfl, hr11, hc11⟩; have HB11 := Lib.hid (fch_below HB10.out hc11 HO.out.1 HO.out.2); clear hr11 hc11))
              go_ret
              exact ⟨rfl, HB0.out.trans (HB11.out.mono HB0.out.size)⟩
            · go_wp2_with (first
                | (go_at_call 17; with_reducible refine (fDone_calls wr g gc r HI.out HRR.out).mono ?_; rintro e w' ⟨rfl, rfl⟩)
                | (at_builtin; refine wp_app rfl _ _ rfl wr.heap.size (.slice (some ⟨wr.heap.size, 0, none⟩) 0 0) _ rfl HW.out mo _ _ rfl more rfl HBs.out HN3.out HSM.out HBW.out.size ?_; intro v5 w5 hown hgr _; have HB5 := Lib.hid (Below.own HBW.out HW.out hgr (Nat.le_refl _)); rw [List.nil_append] at hown; obtain ⟨a5, c5, rfl, hs5, hc5, -, hn5⟩ := hown.bs'; have HS5 := Lib.hid hs5; have HC5 := Lib.hid hc5; have HN5 := Lib.hid hn5; clear hown hgr HW hs5 hc5 hn5))
              have HR5 := Lib.hid (HRR.out.below HB5.out)
              have HB5' : Hid (Below w0.heap.size w0 w5) := Lib.hid (HB.out.trans (HB5.out.mono HB.out.size))
              refine (fTake_any w5 g gc r HI.out HR5.out (HG.out.below HB5'.out).gv.es HGC.out a5 more (by have := HM.out; omega) c5 HC5.out HN5.out HS5.out).mono ?_
              rw [HFD.out]
              rintro e w6 ⟨a6, c6, rfl, -, hr6, hc6⟩
              have HR6 := Lib.hid hr6
              have HB6 := Lib.hid (fch_below HB5'.out hc6 HO.out.1 HO.out.2)
              obtain ⟨x6, -⟩ := HCL.out w6 HB6.out
              have et : errN true = 0 := rfl
              clear hr6 hc6
              go_wp2_with (first
                | (go_at_call 17; with_reducible refine (fDone_calls w6 g gc r HI.out HR6.out).mono ?_; rintro e w' ⟨rfl, rfl⟩)
                | (go_at_call 20; with_reducible refine (fEnd_calls w6 g gc r HI.out HR6.out).mono ?_; rintro e w7 ⟨rfl, hr7, hc7⟩; have HR7 := Lib.hid hr7; have HB7 := Lib.hid (fch_below HB6.out hc7 HO.out.1 HO.out.2); clear hr7 hc7; have HW := Lib.hid (Ow.lit0 w7 w7.heap.size (Nat.le_refl _)); have HBW := Lib.hid ((Below.refl w7.heap.size w7).alloc (Nat.le_refl _) (.cells #[] 5)); have HBs := Lib.hid ((H3.out.below HB7.out).below HBW.out))
                | (go_at_call 17; with_reducible refine (fDone_calls w7 g gc (endR r) HI.out.end HR7.out).mono ?_; rintro e w' ⟨rfl, rfl⟩)
                | (at_builtin; refine wp_app rfl _ _ rfl w7.heap.size (.slice (some ⟨w7.heap.size, 0, none⟩) 0 0) _ rfl HW.out mo _ _ rfl more rfl HBs.out HN3.out HSM.out HBW.out.size ?_; intro v9 w9 hown hgr _; have HB9 := Lib.hid (Below.own HBW.out HW.out hgr (Nat.le_refl _)); rw [List.nil_append] at hown; obtain ⟨a9, c9, rfl, hs9, hc9, -, hn9⟩ := hown.bs'; have HS9 := Lib.hid hs9; have HC9 := Lib.hid hc9; have HN9 := Lib.hid hn9; clear hown hgr HW hs9 hc9 hn9))
              have HR9 := Lib.hid (HR7.out.below HB9.out)
              have HB9' : Hid (Below w0.heap.size w0 w9) := Lib.hid (HB7.out.trans (HB9.out.mono HB7.out.size))
              refine (fTake_any w9 g gc (endR r) HI.out.end HR9.out (HG.out.below HB9'.out).gv.es HGC.out a9 more (by have := HM.out; omega) c9 HC9.out HN9.out HS9.out).mono ?_
              rw [frTake_end]
              rintro e w10 ⟨a10, c10, rfl, -, hr10, hc10⟩
              have HR10 := Lib.hid hr10
              have HB10 := Lib.hid (fch_below HB9'.out hc10 HO.out.1 HO.out.2)
              have hee : (endN (frDone (endR (endR r))) == endN (frDone (endR r))) = true := by simp [endR]
              have hen := endN_eq (frDone (endR r))
              clear hr10 hc10
              go_wp2_with (first
                | (go_at_call 17; with_reducible refine (fDone_calls w10 g gc (endR r) HI.out.end HR10.out).mono ?_; rintro e w' ⟨rfl, rfl⟩)
                | (go_at_call 20; with_reducible refine (fEnd_calls w10 g gc (endR r) HI.out.end HR10.out).mono ?_; rintro e w11 ⟨rfl, hr11, hc11⟩; have HB11 := Lib.hid (fch_below HB10.out hc11 HO.out.1 HO.out.2); clear hr11 hc11))
              go_ret
              exact ⟨rfl, HB0.out.trans (HB11.out.mono HB0.out.size)⟩
          · have hkb : D = true → (k != 3) = false := by rintro rfl; rcases hsp with h | ⟨-, h⟩; cases h; subst h; rfl
            have HR6 := HRR
            have HB6 := HB
            rcases hcase with ⟨hkl, rfl⟩ | hkl
            · have hkb := hkb rfl
              obtain ⟨bb, off, bo, l, cb, rfl, -, hcell, -, -, -, -⟩ := BssF.nth (BssF.below H1.out HB.out) hkl
              go_wp2_with (first
                | (go_at_call 17; with_reducible refine (fDone_calls wr g gc r HI.out HR6.out).mono ?_; rintro e w' ⟨rfl, rfl⟩)
                | (go_at_call 20; with_reducible refine (fEnd_calls wr g gc r HI.out HR6.out).mono ?_; rintro e w7 ⟨rfl, hr7, hc7⟩; have HR7 := Lib.hid hr7; have HB7 := Lib.hid (fch_below HB6.out hc7 HO.out.1 HO.out.2); clear hr7 hc7; have HW := Lib.hid (Ow.lit0 w7 w7.heap.size (Nat.le_refl _)); have HBW := Lib.hid ((Below.refl w7.heap.size w7).alloc (Nat.le_refl _) (.cells #[] 5)); have HBs := Lib.hid ((H3.out.below HB7.out).below HBW.out))
                | (go_at_call 17; with_reducible refine (fDone_calls w7 g gc (endR r) HI.out.end HR7.out).mono ?_; rintro e w' ⟨rfl, rfl⟩)
                | (at_builtin; refine wp_app rfl _ _ rfl w7.heap.size (.slice (some ⟨w7.heap.size, 0, none⟩) 0 0) _ rfl HW.out mo _ _ rfl more rfl HBs.out HN3.out HSM.out HBW.out.size ?_; intro v9 w9 hown hgr _; have HB9 := Lib.hid (Below.own HBW.out HW.out hgr (Nat.le_refl _)); rw [List.nil_append] at hown; obtain ⟨a9, c9, rfl, hs9, hc9, -, hn9⟩ := hown.bs'; have HS9 := Lib.hid hs9; have HC9 := Lib.hid hc9; have HN9 := Lib.hid hn9; clear hown hgr HW hs9 hc9 hn9))
              have HR9 := Lib.hid (HR7.out.below HB9.out)
              have HB9' : Hid (Below w0.heap.size w0 w9) := Lib.hid (HB7.out.trans (HB9.out.mono HB7.out.size))
              refine (fTake_any w9 g gc (endR r) HI.out.end HR9.out (HG.out.below HB9'.out).gv.es HGC.out a9 more (by have := HM.out; omega) c9 HC9.out HN9.out HS9.out).mono ?_
              rw [frTake_end]
              rintro e w10 ⟨a10, c10, rfl, -, hr10, hc10⟩
              have HR10 := Lib.hid hr10
              have HB10 := Lib.hid (fch_below HB9'.out hc10 HO.out.1 HO.out.2)
              have hee : (endN (frDone (endR (endR r))) == endN (frDone (endR r))) = true := by simp [endR]
              have hen := endN_eq (frDone (endR r))
              have et : errN true = 0 := rfl
              clear hr10 hc10
              go_wp2_with (first
                | (go_at_call 17; with_reducible refine (fDone_calls w10 g gc (endR r) HI.out.end HR10.out).mono ?_; rintro e w' ⟨rfl, rfl⟩)
                | (go_at_call 20; with_reducible refine (fEnd_calls w10 g gc (endR r) HI.out.end HR10.out).mono ?_; rintro e w11 ⟨rfl, hr11, hc11⟩; have HB11 := Lib.hid (fch_below HB10.out hc11 HO.out.1 HO.out.2); clear hr11 hc11))
              go_ret
              exact ⟨rfl, HB0.out.trans (HB11.out.mono HB0.out.size)⟩
            · cases D
              · go_wp2_with (first
                  | (go_at_call 17; with_reducible refine (fDone_calls wr g gc r HI.out HR6.out).mono ?_; rintro e w' ⟨rfl, rfl⟩)
                  | (go_at_call 20; with_reducible refine (fEnd_calls wr g gc r HI.out HR6.out).mono ?_; rintro e w7 ⟨rfl, hr7, hc7⟩; have HR7 := Lib.hid hr7; have HB7 := Lib.hid (fch_below HB6.out hc7 HO.out.1 HO.out.2); clear hr7 hc7; have HW := Lib.hid (Ow.lit0 w7 w7.heap.size (Nat.le_refl _)); have HBW := Lib.hid ((Below.refl w7.heap.size w7).alloc (Nat.le_refl _) (.cells #[] 5)); have HBs := Lib.hid ((H3.out.below HB7.out).below HBW.out))
                  | (go_at_call 17; with_reducible refine (fDone_calls w7 g gc (endR r) HI.out.end HR7.out).mono ?_; rintro e w' ⟨rfl, rfl⟩)
                  | (at_builtin; refine wp_app rfl _ _ rfl w7.heap.size (.slice (some ⟨w7.heap.size, 0, none⟩) 0 0) _ rfl HW.out mo _ _ rfl more rfl HBs.out HN3.out HSM.out HBW.out.size ?_; intro v9 w9 hown hgr _; have HB9 := Lib.hid (Below.own HBW.out HW.out hgr (Nat.le_refl _)); rw [List.nil_append] at hown; obtain ⟨a9, c9, rfl, hs9, hc9, -, hn9⟩ := hown.bs'; have HS9 := Lib.hid hs9; have HC9 := Lib.hid hc9; have HN9 := Lib.hid hn9; clear hown hgr HW hs9 hc9 hn9))
                have HR9 := Lib.hid (HR7.out.below HB9.out)
                have HB9' : Hid (Below w0.heap.size w0 w9) := Lib.hid (HB7.out.trans (HB9.out.mono HB7.out.size))
                refine (fTake_any w9 g gc (endR r) HI.out.end HR9.out (HG.out.below HB9'.out).gv.es HGC.out a9 more (by have := HM.out; omega) c9 HC9.out HN9.out HS9.out).mono ?_
                rw [frTake_end]
                rintro e w10 ⟨a10, c10, rfl, -, hr10, hc10⟩
                have HR10 := Lib.hid hr10
                have HB10 := Lib.hid (fch_below HB9'.out hc10 HO.out.1 HO.out.2)
                have hee : (endN (frDone (endR (endR r))) == endN (frDone (endR r))) = true := by simp [endR]
                have hen := endN_eq (frDone (endR r))
                have et : errN true = 0 := rfl
                clear hr10 hc10
                go_wp2_with (first
                  | (go_at_call 17; with_reducible refine (fDone_calls w10 g gc (endR r) HI.out.end HR10.out).mono ?_; rintro e w' ⟨rfl, rfl⟩)
                  | (go_at_call 20; with_reducible refine (fEnd_calls w10 g gc (endR r) HI.out.end HR10.out).mono ?_; rintro e w11 ⟨rfl, hr11, hc11⟩; have HB11 := Lib.hid (fch_below HB10.out hc11 HO.out.1 HO.out.2); clear hr11 hc11))
                go_ret
                exact ⟨rfl, HB0.out.trans (HB11.out.mono HB0.out.size)⟩
              · have hkb := hkb rfl
                go_wp2_with (first
                  | (go_at_call 17; with_reducible refine (fDone_calls wr g gc r HI.out HR6.out).mono ?_; rintro e w' ⟨rfl, rfl⟩)
                  | (go_at_call 20; with_reducible refine (fEnd_calls wr g gc r HI.out HR6.out).mono ?_; rintro e w7 ⟨rfl, hr7, hc7⟩; have HR7 := Lib.hid hr7; have HB7 := Lib.hid (fch_below HB6.out hc7 HO.out.1 HO.out.2); clear hr7 hc7; have HW := Lib.hid (Ow.lit0 w7 w7.heap.size (Nat.le_refl _)); have HBW := Lib.hid ((Below.refl w7.heap.size w7).alloc (Nat.le_refl _) (.cells #[] 5)); have HBs := Lib.hid ((H3.out.below HB7.out).below HBW.out))
                  | (go_at_call 17; with_reducible refine (fDone_calls w7 g gc (endR r) HI.out.end HR7.out).mono ?_; rintro e w' ⟨rfl, rfl⟩)
                  | (at_builtin; refine wp_app rfl _ _ rfl w7.heap.size (.slice (some ⟨w7.heap.size, 0, none⟩) 0 0) _ rfl HW.out mo _ _ rfl more rfl HBs.out HN3.out HSM.out HBW.out.size ?_; intro v9 w9 hown hgr _; have HB9 := Lib.hid (Below.own HBW.out HW.out hgr (Nat.le_refl _)); rw [List.nil_append] at hown; obtain ⟨a9, c9, rfl, hs9, hc9, -, hn9⟩ := hown.bs'; have HS9 := Lib.hid hs9; have HC9 := Lib.hid hc9; have HN9 := Lib.hid hn9; clear hown hgr HW hs9 hc9 hn9))
                have HR9 := Lib.hid (HR7.out.below HB9.out)
                have HB9' : Hid (Below w0.heap.size w0 w9) := Lib.hid (HB7.out.trans (HB9.out.mono HB7.out.size))
                refine (fTake_any w9 g gc (endR r) HI.out.end HR9.out (HG.out.below HB9'.out).gv.es HGC.out a9 more (by have := HM.out; omega) c9 HC9.out HN9.out HS9.out).mono ?_
                rw [frTake_end]
                rintro e w10 ⟨a10, c10, rfl, -, hr10, hc10⟩
                have HR10 := Lib.hid hr10
                have HB10 := Lib.hid (fch_below HB9'.out hc10 HO.out.1 HO.out.2)
                have hee : (endN (frDone (endR (endR r))) == endN (frDone (endR r))) = true := by simp [endR]
                have hen := endN_eq (frDone (endR r))
                have et : errN true = 0 := rfl
                clear hr10 hc10
                go_wp2_with (first
                  | (go_at_call 17; with_reducible refine (fDone_calls w10 g gc (endR r) HI.out.end HR10.out).mono ?_; rintro e w' ⟨rfl, rfl⟩)
                  | (go_at_call 20; with_reducible refine (fEnd_calls w10 g gc (endR r) HI.out.end HR10.out).mono ?_; rintro e w11 ⟨rfl, hr11, hc11⟩; have HB11 := Lib.hid (fch_below HB10.out hc11 HO.out.1 HO.out.2); clear hr11 hc11))
                go_ret
                exact ⟨rfl, HB0.out.trans (HB11.out.mono HB0.out.size)⟩
  all_goals
    clear hb e1
    go_wp2_with fail
    refine (awake_calls _ (HG.out.below HB1.out)).mono ?_
    rintro e w2 ⟨rfl, hb2⟩
    have HB2 := Lib.hid (HB1.out.trans (hb2.mono HB1.out.size))
    clear hb2
    go_wp2_with fail
    go_ret
    exact ⟨rfl, HB0.out.trans (HB2.out.mono HB0.out.size)⟩
end Go.Proofs.YteneioapchhehaaDoor
