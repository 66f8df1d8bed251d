/- FrameReads: the law's walk. -/
import Derived.Test.YteneioapchhehaaDoorFrT
namespace Go.Proofs.YteneioapchhehaaDoor
open Go.RowKit

set_option maxHeartbeats 8000000 in
set_option maxRecDepth 100000 in
theorem Reads_calls (w : World) (hG : Gw w) (k : Int) (_ : (Lit.int .i64 k).wf = true) (n : Int) (_ : (Lit.int .i64 n).wf = true) (ao : Option Addr) (ls : List (Option Addr × List UInt8 × Nat)) (c : Nat) (hlc : ls.length ≤ c) (h1 : Bss w ao ls) (hr : ls.length ≤ reachBytes) :
    Calls Tryd.prog 4 #[.int .i64 k, .int .i64 n, .slice ao ls.length c] w fun e w' => e = .returned (.bool true) ∧ Below w.heap.size w w' := by
  have HG := Lib.hid hG
  have H1 := Lib.hid h1
  have HLC := Lib.hid hlc
  have HR := Lib.hid hr
  clear hG h1 hlc hr
  go_enter Tryd.func4, Tryd.ntmps4
  go_wp2_with fail
  refine (awake_calls _ HG.out).mono ?_
  rintro e w1 ⟨rfl, hb1⟩
  have HB1 := Lib.hid hb1
  clear hb1
  go_wp2_with fail
  refine (GreatB_calls w1 ao ls c HLC.out (BssF.below H1.out HB1.out) HR.out).mono ?_
  rintro e w' ⟨⟨b, rfl, hb⟩, rfl⟩
  cases b with
  | true =>
    clear hb
    go_wp2_with fail
    refine (awake_calls _ (HG.out.below HB1.out)).mono ?_
    rintro e w2 ⟨rfl, hb2⟩
    have HB2 := Lib.hid (HB1.out.trans (hb2.mono HB1.out.size))
    clear hb2
    go_wp2_with fail
    go_ret
    exact ⟨rfl, HB2.out⟩
  | false =>
    have HS := Lib.hid (hb rfl)
    clear hb
    cases hk : newOk k n with
    | false =>
      have HK := Lib.hid hk
      clear hk
      go_wp2_with fail
      refine (fNew_no w1 k n HK.out).mono ?_
      rintro e w' ⟨rfl, rfl⟩
      go_wp2_with fail
      refine (xNew_no w1 k n HK.out).mono ?_
      rintro e w' ⟨rfl, rfl⟩
      go_wp2_with fail
      go_ret
      exact ⟨rfl, HB1.out⟩
    | true =>
      have HK := Lib.hid hk
      have HKR := Lib.hid (newOk_of hk).1
      clear hk
      go_wp2_with fail
      refine (fNew_ok w1 k n HK.out).mono ?_
      rintro e w2 ⟨g, rfl, hr2, hb2⟩
      have HR2 := Lib.hid hr2
      have HB2 := Lib.hid (HB1.out.trans (hb2.mono HB1.out.size))
      obtain ⟨gc, hgc⟩ : ∃ gc, w1.heap.size = gc := ⟨_, rfl⟩
      have HN := Lib.hid (hgc ▸ HB1.out.size)
      rw [hgc] at HR2
      clear hr2 hb2 hgc
      go_wp2_with fail
      refine (xNew_ok w2 k n HK.out).mono ?_
      rintro e w3 ⟨rfl, hx3, hb3⟩
      obtain ⟨gx, hgx⟩ : ∃ gx, w2.heap.size = gx := ⟨_, rfl⟩
      have HO : Hid (w.heap.size ≤ gc ∧ gc < g ∧ g < gx) := Lib.hid ⟨HN.out, HR2.out.1, hgx ▸ lt_of_block HR2.out.2.1⟩
      have HR3 := Lib.hid (HR2.out.below hb3)
      have HX3 := Lib.hid (hgx ▸ hx3)
      have HB3 := Lib.hid (HB2.out.trans (hb3.mono HB2.out.size))
      rw [hgx]
      clear hx3 hb3 hgx HR2 HB2
      have hd0 : (frDone (frNew k n) == rfDone (rfNew k n)) = true := by rw [(FCor.new k n).done]; simp
      go_wp2_with (first
        | (go_at_call 17; with_reducible refine (fDone_calls w3 g gc _ (frNew_I HK.out) HR3.out).mono ?_; rintro e w' ⟨rfl, rfl⟩)
        | (go_at_call 18; with_reducible refine (xDone_calls w3 gx _ HKR.out HX3.out).mono ?_; rintro e w4 ⟨rfl, hb4⟩; have HB4 := Lib.hid hb4; clear hb4)
        | (go_at_call 19; with_reducible refine (takeB_calls w w4 HG.out ao ls c H1.out HS.out g gc gx HO.out (PyRel.mk4 (frNew_I HK.out) (FCor.new k n) HR3.out HX3.out HB3.out HB4.out)).mono ?_; rintro e w5 ⟨rfl, hrel⟩; have HREL := Lib.hid hrel; clear hrel))
      obtain ⟨r, m, hi, hc, hr, hm, hB⟩ := HREL.out
      have HI := Lib.hid hi
      have HC := Lib.hid hc
      have HRR := Lib.hid hr
      have HM := Lib.hid hm
      have HB := Lib.hid hB
      have HMK := Lib.hid (show 1 ≤ m.k ∧ m.k ≤ 4 from hc.k ▸ hi.k)
      have HMKE : Hid (1 ≤ (endX m).k ∧ (endX m).k ≤ 4) := Lib.hid HMK.out
      have hee : (endN (frDone (endR r)) == endN (rfDone (endX m))) = true := by rw [hc.end.done]; simp
      have hdd : (frDone (endR r) == rfDone (endX m)) = true := by rw [hc.end.done]; simp
      clear hi hc hr hm hB HREL HB4 HB3 HR3 HX3 hd0
      go_wp2_with (first
        | (go_at_call 20; with_reducible refine (fEnd_calls w5 g gc r HI.out HRR.out).mono ?_; rintro e w6 ⟨rfl, hr6, hc6⟩; have HR6 := Lib.hid hr6; have HB6 := Lib.hid (fch_below HB.out hc6 HO.out.1 HO.out.2.1); have HM6 := Lib.hid (HM.out.ch hc6 (by have := HO.out; omega)); clear hr6 hc6)
        | (go_at_call 21; with_reducible refine (xEnd_calls w6 gx m HMK.out HM6.out).mono ?_; rintro e w7 ⟨rfl, hm7, hc7⟩; have HM7 := Lib.hid hm7; have HC7 := Lib.hid hc7; have HR7 := Lib.hid (HR6.out.chx hc7 HO.out); clear hm7 hc7)
        | (go_at_call 17; with_reducible refine (fDone_calls w7 g gc _ HI.out.end HR7.out).mono ?_; rintro e w' ⟨rfl, rfl⟩)
        | (go_at_call 18; with_reducible refine (xDone_calls w7 gx (endX m) HMKE.out HM7.out).mono ?_; rintro e w8 ⟨rfl, hb8⟩; have HB8 := Lib.hid hb8; clear hb8)
        | (go_at_call 19; with_reducible refine (takeB_calls w w8 HG.out ao ls c H1.out HS.out g gc gx HO.out (PyRel.mk' HI.out.end HC.out.end HR6.out HM7.out HB6.out HO.out HC7.out HB8.out rfl)).mono ?_; rintro e w9 ⟨rfl, hrel⟩; have HREL := Lib.hid hrel; clear hrel))
      go_ret
      obtain ⟨_, _, _, _, _, _, hB9⟩ := HREL.out
      exact ⟨rfl, hB9⟩
end Go.Proofs.YteneioapchhehaaDoor
