/- FrameDealt: the law's walk. -/
import Derived.Test.YteneioapchhehaaDoorFrG
import Derived.Test.YteneioapchhehaaDoorDealL
namespace Go.Proofs.YteneioapchhehaaDoor
open Go.RowKit

theorem gsum_take_le (ls : List (Option Addr × List UInt8 × Nat)) (j : Nat) : gsum (ls.take j) ≤ gsum ls := by
  conv => rhs; rw [← List.take_append_drop j ls]
  unfold gsum
  rw [List.map_append, List.sum_append]
  omega

/-- what the loop keeps -/
def DlRel (w0 : World) (g gc gs gsc : Nat) (r0 : Fr) (j tot : Nat) (L got : BL) (read : Nat) (failed : Bool) (wr : World) : Prop :=
  ∃ r, DlI r0 L got read failed r ∧ FrI r ∧ FrAt wr g gc r ∧ FrAt wr gs gsc r0 ∧ Below w0.heap.size w0 wr ∧ L.length + j ≤ tot ∧ got.length ≤ L.length ∧ read ≤ L.length

theorem FrAt.ch2 {w w' : World} {g gc gs gsc : Nat} {r : Fr} (h : FrAt w gs gsc r) (hc : Ch (fun k => k = g ∨ k = gc) w w') (ho : gc < g ∧ g < gsc ∧ gsc < gs) : FrAt w' gs gsc r :=
  ⟨h.1, (hc.block _ (lt_of_block h.2.1) (by omega)).trans h.2.1, (hc.block _ (lt_of_block h.2.2) (by omega)).trans h.2.2⟩

theorem FrAt.ch3 {w w' : World} {g gc gs gsc : Nat} {r : Fr} (h : FrAt w g gc r) (hc : Ch (fun k => k = gs ∨ k = gsc) w w') (ho : gc < g ∧ g < gsc ∧ gsc < gs) : FrAt w' g gc r :=
  ⟨h.1, (hc.block _ (lt_of_block h.2.1) (by omega)).trans h.2.1, (hc.block _ (lt_of_block h.2.2) (by omega)).trans h.2.2⟩

theorem DlRel.step {w0 w1 w2 w3 : World} {g gc gs gsc : Nat} {r0 r r2 : Fr} {j tot : Nat} {L got b d : BL} {read n : Nat} {ok : Bool} (hi0 : FrI r0) (h : DlI r0 L got read false r) (hi : FrI r) (hs : read = L.length) (ht : frTake r b = (r2, d, n, ok))
    (hr : FrAt w3 g gc r2) (h2 : FrAt w2 gs gsc r0) (hb : Below w0.heap.size w0 w1) (hx : Below w1.heap.size w1 w2) (hc : Ch (fun k => k = g ∨ k = gc) w2 w3) (ho : w0.heap.size ≤ gc ∧ gc < g ∧ g < gsc ∧ gsc < gs)
    (hl : (L ++ b).length + (j + 1) ≤ tot) (hg : got.length ≤ L.length) (_hrd : read ≤ L.length) : DlRel w0 g gc gs gsc r0 (j + 1) tot (L ++ b) (got ++ d) (read + n) (!ok) w3 := by
  have hle := frTake_len hi b
  have hi2 := frTake_I hi b
  rw [ht] at hle hi2
  dsimp only at hle hi2
  exact ⟨r2, h.step hi0 hs ht, hi2, hr, h2.ch2 hc ho.2, fch_below (hb.trans (hx.mono hb.size)) hc ho.1 ho.2.1, hl, by rw [List.length_append, List.length_append]; omega, by rw [List.length_append]; omega⟩

set_option maxHeartbeats 8000000 in
set_option maxRecDepth 100000 in
theorem DealtF_calls (w : World) (hG : Gw w) (k : Int) (_ : (Lit.int .i64 k).wf = true) (n : Int) (_ : (Lit.int .i64 n).wf = true) (ao : Option Addr) (ls : List (Option Addr × List UInt8 × Nat)) (c : Nat) (hlc : ls.length ≤ c) (h1 : Bss w ao ls) (hr : ls.length ≤ reachBytes) :
    Calls Tryd.prog 8 #[.int .i64 k, .int .i64 n, .slice ao ls.length c] w fun e w' => e = .returned (.bool true) ∧ Below w.heap.size w w' := by
  have HG := Lib.hid hG
  have H1 := Lib.hid h1
  have HLC := Lib.hid hlc
  have HR := Lib.hid hr
  clear hG h1 hlc hr
  go_enter Tryd.func8, Tryd.ntmps8
  go_wp2_with fail
  refine (awake_calls _ HG.out).mono ?_
  rintro e w1 ⟨rfl, hb1⟩
  have HB1 := Lib.hid hb1
  clear hb1
  go_wp2_with fail
  refine (GreatB_calls w1 ao ls c HLC.out (BssF.below H1.out HB1.out) HR.out).mono ?_
  rintro e w' ⟨⟨b, rfl, hb⟩, rfl⟩
  cases b with
  | true =>
    clear hb
    go_wp2_with fail
    refine (awake_calls _ (HG.out.below HB1.out)).mono ?_
    rintro e w2 ⟨rfl, hb2⟩
    have HB2 := Lib.hid (HB1.out.trans (hb2.mono HB1.out.size))
    clear hb2
    go_wp2_with fail
    go_ret
    exact ⟨rfl, HB2.out⟩
  | false =>
    have HS := Lib.hid (hb rfl)
    clear hb
    cases hk : newOk k n with
    | false =>
      have HK := Lib.hid hk
      clear hk
      go_wp2_with fail
      refine (fNew_no w1 k n HK.out).mono ?_
      rintro e w' ⟨rfl, rfl⟩
      go_wp2_with fail
      refine (fNew_no w1 k n HK.out).mono ?_
      rintro e w' ⟨rfl, rfl⟩
      go_wp2_with fail
      go_ret
      exact ⟨rfl, HB1.out⟩
    | true =>
      have HK := Lib.hid hk
      clear hk
      go_wp2_with fail
      refine (fNew_ok w1 k n HK.out).mono ?_
      rintro e w2 ⟨g, rfl, hr2, hb2⟩
      have HR2 := Lib.hid hr2
      have HB2 := Lib.hid (HB1.out.trans (hb2.mono HB1.out.size))
      obtain ⟨gc, hgc⟩ : ∃ gc, w1.heap.size = gc := ⟨_, rfl⟩
      have HN := Lib.hid (hgc ▸ HB1.out.size)
      rw [hgc] at HR2
      clear hr2 hb2 hgc
      go_wp2_with fail
      refine (fNew_ok w2 k n HK.out).mono ?_
      rintro e w3 ⟨gs, rfl, hr3, hb3⟩
      obtain ⟨gsc, hgsc⟩ : ∃ gsc, w2.heap.size = gsc := ⟨_, rfl⟩
      rw [hgsc] at hr3
      have HO : Hid (w.heap.size ≤ gc ∧ gc < g ∧ g < gsc ∧ gsc < gs) := Lib.hid ⟨HN.out, HR2.out.1, hgsc ▸ lt_of_block HR2.out.2.1, hr3.1⟩
      have HGC : Hid (0 < gc) := Lib.hid (Nat.lt_of_lt_of_le HG.out.gv.lt.2 HO.out.1)
      have hll : ls.length ≤ 600 := Nat.le_trans (gsum_len ls) HS.out
      have HREL0 : Hid (DlRel w g gc gs gsc (frNew k n) 0 (gsum (ls.take 0)) [] [] 0 false w3) := Lib.hid ⟨_, DlI.zero HK.out, frNew_I HK.out, HR2.out.below hb3, hr3, HB2.out.trans (hb3.mono HB2.out.size), Nat.le_refl _, Nat.le_refl _, Nat.le_refl _⟩
      clear hr3 hb3 hgsc HR2 HB2
      obtain ⟨r0, hr0⟩ : ∃ r0, frNew k n = r0 := ⟨_, rfl⟩
      have HI0 : Hid (FrI r0) := Lib.hid (hr0 ▸ frNew_I HK.out)
      rw [hr0] at HREL0
      clear hr0
      go_wp2_with fail
      go_loopw [11, 12, 13, 14, 61] (fun v11 v12 v13 v14 v61 wr => ∃ (j : Nat) (L got : BL) (read : Nat) (failed : Bool), v11 = .string (bs L) ∧ v12 = .string (bs got) ∧ v13 = .int .i64 read ∧ v14 = .bool failed ∧ v61 = .int .i64 j ∧ j ≤ ls.length ∧ DlRel w g gc gs gsc r0 j (gsum (ls.take j)) L got read failed wr) (fun _ _ _ _ v61 _ => ls.length - (intOf v61).toNat)
      case atStart => exact ⟨0, [], [], 0, false, rfl, rfl, rfl, rfl, rfl, Nat.zero_le _, HREL0.out⟩
      case round =>
        clear HREL0
        obtain ⟨j, L, got, read, failed, rfl, rfl, rfl, rfl, rfl, hj, r, hd, hi, hr, hs, hB, hLt, hgl, hrl⟩ := hrel
        have HD := Lib.hid hd
        have HI := Lib.hid hi
        have HRR := Lib.hid hr
        have HSS := Lib.hid hs
        have HB := Lib.hid hB
        have htot : gsum (ls.take j) ≤ 600 := Nat.le_trans (gsum_take_le ls j) HS.out
        by_cases hkl : j < ls.length
        · obtain ⟨bb, off, bo, l, cb, rfl, hx, hcell, hbs, hbc, hbn, -⟩ := BssF.nth (BssF.below H1.out hB) hkl
          have hgt := gsum_take hx
          dsimp only at hgt
          have hl6 : l.length ≤ 600 := by have := gsum_mem (List.mem_of_getElem? hx); have := HS.out; dsimp only at *; omega
          have HLT : Hid ((L ++ l).length + (j + 1) ≤ gsum (ls.take (j + 1))) := Lib.hid (by rw [hgt, List.length_append]; omega)
          have rs := run_str (n := l.length) hbs rfl cb
          have hcat : ¬ 9223372036854775807 < (bs L).size + l.length := by rw [bs_size]; omega
          have HKL := Lib.hid hkl
          have HK2 : Hid (wrap64 ((j : Int) + 1) = ((j + 1 : Nat) : Int)) := Lib.hid (by rw [IntWalk.wrap64_in _ (by omega)]; rfl)
          have hsub : wrap64 ((((bs L).size + l.length : Nat) : Int) - (l.length : Int)) = (L.length : Int) := by
            rw [bs_size, IntWalk.wrap64_in _ (by omega)]; omega
          cases failed with
          | true =>
            have HREL : Hid (DlRel w g gc gs gsc r0 (j + 1) (gsum (ls.take (j + 1))) (L ++ l) got read true wr) := Lib.hid
              ⟨r, hd.stop HI0.out (.inl rfl), hi, hr, hs, hB, HLT.out, by rw [List.length_append]; omega, by rw [List.length_append]; omega⟩
            clear hd hi hr hs hB hLt hgl hrl hgt hbs hx
            go_wp2_with fail
            go_roundw
            case rel => exact ⟨j + 1, L ++ l, got, read, true, by rw [← bs_append]; rfl, rfl, rfl, rfl, by first | rfl | rw [HK2.out], HKL.out, HREL.out⟩
            case measure => have := HKL.out; (try rw [HK2.out]); simp [intOf]; omega
          | false =>
            by_cases hrd : read = L.length
            · have hne : ((read : Int) != ((bs L).size : Int)) = false := by rw [bs_size, hrd]; simp
              obtain ⟨⟨r2, dt, n2, ok⟩, hq⟩ : ∃ q, frTake r l = q := ⟨_, rfl⟩
              have hle := frTake_len hi l
              rw [hq] at hle
              dsimp only at hle
              have HQ := Lib.hid hq
              have HLE := Lib.hid hle
              have HRD := Lib.hid hrd
              have HBN := Lib.hid hbn
              have HGL := Lib.hid hgl
              have HRL := Lib.hid hrl
              have HW := Lib.hid (Ow.lit0 wr wr.heap.size (Nat.le_refl _))
              have HBW := Lib.hid ((Below.refl wr.heap.size wr).alloc (Nat.le_refl _) (.cells #[] 5))
              have HBs := Lib.hid (hbs.below HBW.out)
              have HL6 := Lib.hid hl6
              have HLL : Hid (L.length ≤ 600) := Lib.hid (by omega)
              have HS1 : Hid (([] : List UInt8).length + l.length ≤ 70368744177664) := Lib.hid (by simp; omega)
              clear hd hi hr hs hB hLt hgl hrl hgt hbs hx hrd hq hle hbn
              go_wp2_with (at_builtin; refine wp_app rfl _ _ rfl wr.heap.size (.slice (some ⟨wr.heap.size, 0, none⟩) 0 0) _ rfl HW.out bo _ _ rfl l rfl HBs.out HBN.out HS1.out HBW.out.size ?_; intro v5 w5 hown hgr _; have HB5 := Lib.hid (Below.own HBW.out HW.out hgr (Nat.le_refl _)); rw [List.nil_append] at hown; obtain ⟨a5, c5, rfl, hs5, hc5, -, hn5⟩ := hown.bs'; have HS5 := Lib.hid hs5; have HC5 := Lib.hid hc5; have HN5 := Lib.hid hn5; clear hown hgr HW hs5 hc5 hn5)
              have HR5 := Lib.hid (HRR.out.below HB5.out)
              have HB5' : Hid (Below w.heap.size w w5) := Lib.hid (HB.out.trans (HB5.out.mono HB.out.size))
              refine (fTake_any w5 g gc r HI.out HR5.out (HG.out.below HB5'.out).gv.es HGC.out a5 l (by have := HL6.out; omega) c5 HC5.out HN5.out HS5.out).mono ?_
              rw [HQ.out]
              rintro e w6 ⟨a6, c6, rfl, hs6, hr6, hc6⟩
              have rs6 := run_str (n := dt.length) hs6 rfl c6
              have HREL := Lib.hid (DlRel.step HI0.out HD.out HI.out HRD.out HQ.out hr6 (HSS.out.below HB5.out) HB.out HB5.out hc6 HO.out HLT.out HGL.out HRL.out)
              have hcat2 : ¬ 9223372036854775807 < (bs got).size + dt.length := by rw [bs_size]; have := HGL.out; have := HLL.out; have := HLE.out; have := HL6.out; omega
              have hadd : wrap64 ((read : Int) + (n2 : Int)) = ((read + n2 : Nat) : Int) := by
                rw [IntWalk.wrap64_in _ (by have := HRD.out; have := HLL.out; have := HLE.out; have := HL6.out; omega)]; omega
              have HADD := Lib.hid hadd
              have hok : (errN ok != 0) = !ok := by cases ok <;> rfl
              have HOK := Lib.hid hok
              clear hs6 hr6 hc6
              go_wp2_with fail
              go_roundw
              case rel => exact ⟨j + 1, L ++ l, got ++ dt, read + n2, !ok, by rw [← bs_append]; rfl, by rw [← bs_append]; rfl, by first | rfl | rw [HADD.out], by first | rfl | rw [HOK.out], by first | rfl | rw [HK2.out], HKL.out, HREL.out⟩
              case measure => have := HKL.out; (try rw [HK2.out]); simp [intOf]; omega
            · have HREL : Hid (DlRel w g gc gs gsc r0 (j + 1) (gsum (ls.take (j + 1))) (L ++ l) got read false wr) := Lib.hid
                ⟨r, hd.stop HI0.out (.inr hrd), hi, hr, hs, hB, HLT.out, by rw [List.length_append]; omega, by rw [List.length_append]; omega⟩
              have hne : ((read : Int) != ((bs L).size : Int)) = true := bne_iff_ne.2 (by rw [bs_size]; omega)
              clear hd hi hr hs hB hLt hgl hrl hgt hbs hx hrd
              go_wp2_with fail
              go_roundw
              case rel => exact ⟨j + 1, L ++ l, got, read, false, by rw [← bs_append]; rfl, rfl, rfl, rfl, by first | rfl | rw [HK2.out], HKL.out, HREL.out⟩
              case measure => have := HKL.out; (try rw [HK2.out]); simp [intOf]; omega
        · obtain rfl : j = ls.length := by omega
          have hL6 : L.length ≤ 600 := by omega
          have how := Ow.bytes wr (bs L) (by rw [bs_size]; omega)
          have e1 : (bs L).data.toList = L := by simp [bs]
          have hcv := Lib.run_convert_string_bytes (P := Tryd.prog) wr 9 43 5 (bs L) Tryd.underlying9 Tryd.underlying43 Tryd.underlying5
          rw [e1, bs_size] at how
          rw [bs_size] at hcv
          obtain ⟨a4, c4, hv, hs4, hc4, -, hn4⟩ := how.bs'
          rw [hv] at hcv
          have hb4 := bw_below wr (bs L)
          generalize Lib.bytesWorld wr 5 (bs L) = w4 at hcv hs4 hb4
          have HS4 := Lib.hid hs4
          have HC4 := Lib.hid hc4
          have HN4 := Lib.hid hn4
          have HB4 := Lib.hid hb4
          have HB4' : Hid (Below w.heap.size w w4) := Lib.hid (hB.trans (hb4.mono hB.size))
          have HL6 := Lib.hid hL6
          have HR4 := Lib.hid (hr.below hb4)
          have HGSC : Hid (0 < gsc) := Lib.hid (by have := HO.out; have := HGC.out; omega)
          have HO3 : Hid (gc < g ∧ g < gsc ∧ gsc < gs) := Lib.hid HO.out.2
          obtain ⟨⟨r4, p4⟩, hq⟩ : ∃ q, frTake r0 L = q := ⟨_, rfl⟩
          have HQ := Lib.hid hq
          clear hd hi hr hs hB hj how hv hs4 hc4 hn4 hb4 e1 hLt hgl hrl hL6 htot
          go_wp2_with fail
          refine (fTake_any w4 gs gsc r0 HI0.out (HSS.out.below HB4.out) (HG.out.below HB4'.out).gv.es HGSC.out a4 L (by have := HL6.out; omega) c4 HC4.out HN4.out HS4.out).mono ?_
          rw [HQ.out]
          rintro e w6 ⟨a6, c6, rfl, hs6, hr6, hc6⟩
          have HB6 : Hid (Below w.heap.size w w6) := Lib.hid (fch_below HB4'.out (hc6.mono fun k hk => hk) (by have := HO.out; omega) HO.out.2.2.2)
          have HR6 := Lib.hid (HR4.out.ch3 hc6 HO3.out)
          cases failed with
          | true =>
            have h2 := HD.out.1 rfl
            rw [hq] at h2
            dsimp only at h2
            subst h2
            have ef : errN false = 2 := rfl
            clear hs6 hr6 hc6 hq
            go_wp2_with fail
            go_ret
            exact ⟨rfl, HB6.out⟩
          | false =>
            have h2 := HD.out.2 rfl
            rw [hq] at h2
            injection h2 with h2 h3
            subst h2 h3
            have et : errN true = 0 := rfl
            dsimp only at hs6 hr6 ⊢
            have rs6 : (convert 43 9 (.slice a6 got.length c6)).run Tryd.prog w6 = .ok (.string (bs got)) w6 := run_str (n := got.length) hs6 rfl c6
            have heb : ((bs got).toList == (bs got).toList) = true := by simp
            have HS6 := Lib.hid hr6
            clear hs6 hr6 hc6 hq
            go_wp2_with (first
              | (go_at_call 17; with_reducible refine (fDone_calls w6 g gc r4 HI.out HR6.out).mono ?_; rintro e w' ⟨rfl, rfl⟩)
              | (go_at_call 17; with_reducible refine (fDone_calls w6 gs gsc r4 HI.out HS6.out).mono ?_; rintro e w' ⟨rfl, rfl⟩))
            go_ret
            exact ⟨rfl, HB6.out⟩
end Go.Proofs.YteneioapchhehaaDoor
