/- The laws' helper that plays pieces on both readers; how many pieces are played. -/
import Derived.Test.YteneioapchhehaaDoorFrX
import Derived.Test.YteneioapchhehaaDoorFrG
namespace Go.Proofs.YteneioapchhehaaDoor
open Go.RowKit

/-- what the loop keeps -/
def PyRel (w0 : World) (g gc gx : Nat) (wr : World) : Prop :=
  ∃ r m, FrI r ∧ FCor r m ∧ FrAt wr g gc r ∧ RfAt wr gx m ∧ Below w0.heap.size w0 wr

theorem PyRel.mk' {w0 wr w2 w3 w4 : World} {g gc gx : Nat} {r : Fr} {m : Rf} (h1 : FrI r) (h2 : FCor r m) (hr : FrAt wr g gc r) (hm : RfAt w2 gx m) (hB : Below w0.heap.size w0 wr) (ho : w0.heap.size ≤ gc ∧ gc < g ∧ g < gx)
    (c1 : Ch (· = gx) wr w2) (b3 : Below w2.heap.size w2 w3) (hw : w3 = w4) : PyRel w0 g gc gx w4 := by
  subst hw
  refine ⟨r, m, h1, h2, ?_, hm.below b3, ?_⟩
  · exact FrAt.below ⟨hr.1, (c1.block _ (lt_of_block hr.2.1) (by omega)).trans hr.2.1, (c1.block _ (lt_of_block hr.2.2) (by omega)).trans hr.2.2⟩ b3
  · exact (Below.ch hB c1 (fun k hk => by subst hk; omega) hB.size).trans (b3.mono (Nat.le_trans hB.size c1.size))

theorem FrAt.chx {w w' : World} {g gc gx : Nat} {r : Fr} (h : FrAt w g gc r) (hc : Ch (· = gx) w w') {n : Nat} (ho : n ≤ gc ∧ gc < g ∧ g < gx) : FrAt w' g gc r :=
  ⟨h.1, (hc.block _ (lt_of_block h.2.1) (by omega)).trans h.2.1, (hc.block _ (lt_of_block h.2.2) (by omega)).trans h.2.2⟩
theorem PyRel.mk4 {w0 wr w4 : World} {g gc gx : Nat} {r : Fr} {m : Rf} (h1 : FrI r) (h2 : FCor r m) (hr : FrAt wr g gc r) (hm : RfAt wr gx m) (hB : Below w0.heap.size w0 wr) (b : Below wr.heap.size wr w4) : PyRel w0 g gc gx w4 :=
  ⟨r, m, h1, h2, hr.below b, hm.below b, hB.trans (b.mono hB.size)⟩

set_option maxHeartbeats 8000000 in
set_option maxRecDepth 100000 in
theorem takeB_calls (w0 w : World) (hG : Gw w0) (ao : Option Addr) (ls : List (Option Addr × List UInt8 × Nat)) (c : Nat) (h1 : Bss w0 ao ls) (hs : gsum ls ≤ 600) (g gc gx : Nat) (ho : w0.heap.size ≤ gc ∧ gc < g ∧ g < gx) (hrel0 : PyRel w0 g gc gx w) :
    Calls Tryd.prog 19 #[.pointer (some ⟨g, 0, none⟩), .pointer (some ⟨gx, 0, none⟩), .slice ao ls.length c] w fun e w' => e = .returned (.bool true) ∧ PyRel w0 g gc gx w' := by
  have HG := Lib.hid hG
  have H1 := Lib.hid h1
  have HO := Lib.hid ho
  have hll : ls.length ≤ 600 := Nat.le_trans (gsum_len ls) hs
  have HS := Lib.hid hs
  have HR0 := Lib.hid hrel0
  clear hG h1 ho hs hrel0
  go_enter Tryd.func19, Tryd.ntmps19
  go_wp2_with fail
  go_loopw [17] (fun v17 wr => ∃ k : Nat, v17 = .int .i64 k ∧ k ≤ ls.length ∧ PyRel w0 g gc gx wr) (fun v17 _ => ls.length - (intOf v17).toNat)
  case atStart => exact ⟨0, rfl, Nat.zero_le _, HR0.out⟩
  case round =>
    clear HR0
    obtain ⟨k, rfl, hk, hrr⟩ := hrel
    by_cases hkl : k < ls.length
    · obtain ⟨r, m, hi, hc, hr, hm, hB⟩ := hrr
      obtain ⟨bb, off, bo, l, cb, rfl, hx, hcell, hbs, hbc, hbn, -⟩ := BssF.nth (BssF.below H1.out hB) hkl
      have hl6 : l.length ≤ 600 := by have := gsum_mem (List.mem_of_getElem? hx); have := HS.out; dsimp only at *; omega
      have hl : l.length ≤ 1099511627776 := by omega
      obtain ⟨hq1, hq2⟩ := hc.take hi l hl
      have hqi := frTake_I hi l
      obtain ⟨⟨r2, dt, k2, ok⟩, hq⟩ : ∃ q, frTake r l = q := ⟨_, rfl⟩
      obtain ⟨⟨m2, p⟩, hy⟩ : ∃ y, rfTake m l = y := ⟨_, rfl⟩
      rw [hq] at hq1 hq2 hqi
      rw [hy] at hq1 hq2
      dsimp only at hq1 hq2 hqi
      subst hq1
      have HQI := Lib.hid hqi
      have HQ := Lib.hid hq
      have HY := Lib.hid hy
      have HC2 := Lib.hid hq2
      have HC := Lib.hid hc
      have HI := Lib.hid hi
      have HR := Lib.hid hr
      have HM := Lib.hid hm
      have HB := Lib.hid hB
      have HBS := Lib.hid hbs
      have HBC := Lib.hid hbc
      have HBN := Lib.hid hbn
      have HXX := Lib.hid hx
      have HL := Lib.hid hl
      have HKL := Lib.hid hkl
      have HK2 : Hid (wrap64 ((k : Int) + 1) = ((k + 1 : Nat) : Int)) := Lib.hid (by rw [IntWalk.wrap64_in _ (by omega)]; rfl)
      have HW := Lib.hid (Ow.lit0 wr wr.heap.size (Nat.le_refl _))
      have HBW := Lib.hid ((Below.refl wr.heap.size wr).alloc (Nat.le_refl _) (.cells #[] 5))
      have HBs := Lib.hid (hbs.below HBW.out)
      have HS1 : Hid (([] : List UInt8).length + l.length ≤ 70368744177664) := Lib.hid (by simp; omega)
      clear hqi hq hy hq2 hc hi hr hm hB hbs hbc hbn hx hl hl6
      go_wp2_with (at_builtin; refine wp_app rfl _ _ rfl wr.heap.size (.slice (some ⟨wr.heap.size, 0, none⟩) 0 0) _ rfl HW.out bo _ _ rfl l rfl HBs.out HBN.out HS1.out HBW.out.size ?_; intro v5 w5 hown hgr _; have HB5 := Lib.hid (Below.own HBW.out HW.out hgr (Nat.le_refl _)); rw [List.nil_append] at hown; obtain ⟨a5, c5, rfl, hs5, hc5, -, hn5⟩ := hown.bs'; have HS5 := Lib.hid hs5; have HC5 := Lib.hid hc5; have HN5 := Lib.hid hn5; clear hown hgr HW hs5 hc5 hn5)
      have HR5 := Lib.hid (HR.out.below HB5.out)
      have HM5 := Lib.hid (HM.out.below HB5.out)
      have HB5' : Hid (Below w0.heap.size w0 w5) := Lib.hid (HB.out.trans (HB5.out.mono HB.out.size))
      have HGC : Hid (0 < gc) := Lib.hid (Nat.lt_of_lt_of_le HG.out.gv.lt.2 HO.out.1)
      refine (fTake_any w5 g gc r HI.out HR5.out (HG.out.below HB5'.out).gv.es HGC.out a5 l HL.out c5 HC5.out HN5.out HS5.out).mono ?_
      rw [HQ.out]
      rintro e w6 ⟨a6, c6, rfl, hs6, hr6, hc6⟩
      have HS6 := Lib.hid hs6
      have HR6 := Lib.hid hr6
      have HB6 := Lib.hid (fch_below HB5'.out hc6 HO.out.1 HO.out.2.1)
      have HM6 := Lib.hid (HM5.out.ch hc6 (by have := HO.out; omega))
      clear hs6 hr6 hc6
      obtain ⟨_, _, bo', l', cb', -, hx', -, hbs', -⟩ := BssF.nth (BssF.below H1.out HB6.out) HKL.out
      rw [HXX.out] at hx'
      cases hx'
      have HBS6 := Lib.hid hbs'
      clear hbs'
      go_wp2_with fail
      refine (xTake_calls w6 gx m r HI.out HC.out HM6.out bo l HL.out cb HBC.out HBS6.out).mono ?_
      rw [HY.out]
      rintro e w7 ⟨a7, c7, rfl, hs7, hm7, hc7⟩
      have hs67 : Bs w7 a6 dt := HS6.out.ch hc7 (fun b off h1 h2 hk => by subst hk; exact rf_ne (h1 ▸ HS6.out) h2 HM6.out rfl)
      have rs6 := run_str (n := dt.length) hs67 rfl c6
      have rs7 := run_str (n := dt.length) hs7 rfl c7
      have HM7 := Lib.hid hm7
      have HC7 := Lib.hid hc7
      have hr7 : FrAt w7 g gc r2 := ⟨HR6.out.1, (hc7.block _ (lt_of_block HR6.out.2.1) (by have := HO.out; omega)).trans HR6.out.2.1, (hc7.block _ (lt_of_block HR6.out.2.2) (by have := HO.out; omega)).trans HR6.out.2.2⟩
      have HR7 := Lib.hid hr7
      have hed : (frDone r2 == rfDone m2) = true := by rw [HC2.out.done]; simp
      have hkk := HC2.out.k ▸ HQI.out.k
      have HKK := Lib.hid hkk
      clear hs7 hm7 hc7 hr7 hs67 hkk
      go_wp2_with (first
        | (go_at_call 17; with_reducible refine (fDone_calls w7 g gc _ HQI.out HR7.out).mono ?_; rintro e w' ⟨rfl, rfl⟩)
        | (go_at_call 18; with_reducible refine (xDone_calls w7 gx _ HKK.out HM7.out).mono ?_; rintro e w8 ⟨rfl, hb8⟩; have HB8 := Lib.hid hb8; clear hb8))
      have HREL := Lib.hid (PyRel.mk' HQI.out HC2.out HR6.out HM7.out HB6.out HO.out HC7.out HB8.out rfl)
      go_roundw
      case rel => exact ⟨k + 1, by first | rfl | rw [HK2.out], HKL.out, HREL.out⟩
      case measure => have := HKL.out; (try rw [HK2.out]); simp [intOf]; omega
    · obtain rfl : k = ls.length := by omega
      have HRR := Lib.hid hrr
      clear hrr hk
      go_wp2_with fail
      go_ret
      exact ⟨rfl, HRR.out⟩
end Go.Proofs.YteneioapchhehaaDoor
