/- FrameStrange: the law's walk. -/
import Derived.Test.YteneioapchhehaaDoorMc
namespace Go.Proofs.YteneioapchhehaaDoor
open Go.RowKit

set_option maxHeartbeats 2000000 in
set_option maxRecDepth 100000 in
theorem Strange_long (w : World) (hG : Gw w) (n : Int) (A : Option Addr) (m c : Nat) (s : ByteArray) (h : 50 < s.size) :
    Calls Tryd.prog 3 #[.int .i64 n, .slice A m c, .string s] w fun e w' => e = .returned (.bool true) ∧ Below w.heap.size w w' := by
  have t1 : decide ((50 : Int) < (s.size : Int)) = true := decide_eq_true (by omega)
  have HG := Lib.hid hG
  clear h hG
  go_enter Tryd.func3, Tryd.ntmps3
  go_wp2_with fail
  refine (awake_calls _ HG.out).mono ?_
  rintro e w1 ⟨rfl, hb1⟩
  have HB1 := Lib.hid hb1
  clear hb1
  go_wp2_with fail
  refine (awake_calls _ (HG.out.below HB1.out)).mono ?_
  rintro e w2 ⟨rfl, hb2⟩
  have HB2 := Lib.hid (HB1.out.trans (hb2.mono HB1.out.size))
  clear hb2
  go_wp2_with fail
  go_ret
  exact ⟨rfl, HB2.out⟩

set_option maxHeartbeats 4000000 in
set_option maxRecDepth 100000 in
theorem Strange_calls (w : World) (hG : Gw w) (n : Int) (_ : (Lit.int .i64 n).wf = true) (A : Option Addr) (fs : List (BL × BL)) (c : Nat) (hc : fs.length ≤ c) (hcn : A = none → c = 0) (hr : FsAt w A fs) (hs : ∀ x ∈ fs, x.1.length ≤ 140737488355328 ∧ x.2.length ≤ 140737488355328) (hl : fs.length ≤ 4398046511104) (s : ByteArray) (_ : s.size ≤ maxLen) :
    Calls Tryd.prog 3 #[.int .i64 n, .slice A fs.length c, .string s] w fun e w' => e = .returned (.bool true) ∧ Below w.heap.size w w' := by
  by_cases h50 : 50 < s.size
  · exact Strange_long w hG n A _ c s h50
  have t1 : decide ((50 : Int) < (s.size : Int)) = false := decide_eq_false (by omega)
  obtain ⟨b, hb, hgr⟩ := Great7_calls w A c fs hs hl hr hc
  have HGR := Lib.hid hgr
  have HG := Lib.hid hG
  have HB := Lib.hid hb
  have HR := Lib.hid hr
  have HCN := Lib.hid hcn
  have HC := Lib.hid hc
  clear h50 hgr hG hs hl hr hcn hc hb
  cases b with
  | true =>
    go_enter Tryd.func3, Tryd.ntmps3
    go_wp2_with fail
    refine (awake_calls _ HG.out).mono ?_
    rintro e w1 ⟨rfl, hb1⟩
    have HB1 := Lib.hid hb1
    clear hb1
    go_wp2_with fail
    refine (HGR.out _ HB1.out).mono ?_
    rintro e w3 ⟨rfl, hb3⟩
    have HB3 := Lib.hid (HB1.out.trans (hb3.mono HB1.out.size))
    clear hb3
    go_wp2_with fail
    refine (awake_calls _ (HG.out.below HB3.out)).mono ?_
    rintro e w2 ⟨rfl, hb2⟩
    have HB2 := Lib.hid (HB3.out.trans (hb2.mono HB3.out.size))
    clear hb2
    go_wp2_with fail
    go_ret
    exact ⟨rfl, HB2.out⟩
  | false =>
    have HF := Lib.hid (HB.out rfl)
    obtain ⟨l, rfl⟩ : ∃ l, s = bs l := ⟨s.data.toList, (bs_self s).symm⟩
    obtain ⟨⟨p, q, r⟩, hpq⟩ : ∃ q, frameOf n fs l = q := ⟨_, rfl⟩
    have hp : (p == p) = true := by simp
    have hq : (q == q) = true := by simp
    have hr : (r == r) = true := by simp
    have HPQ := Lib.hid hpq
    clear hpq
    go_enter Tryd.func3, Tryd.ntmps3
    go_wp2_with fail
    refine (awake_calls _ HG.out).mono ?_
    rintro e w1 ⟨rfl, hb1⟩
    have HB1 := Lib.hid hb1
    clear hb1
    go_wp2_with fail
    refine (HGR.out _ HB1.out).mono ?_
    rintro e w3 ⟨rfl, hb3⟩
    have HB3 := Lib.hid (HB1.out.trans (hb3.mono HB1.out.size))
    have HR3 := Lib.hid (HR.out.below HB3.out)
    clear hb3
    go_wp2_with (at_builtin; refine wp_appF rfl _ _ rfl rfl A _ c rfl fs rfl HR3.out HCN.out (Nat.le_trans HF.out.2 (by decide)) ?_; intro A4 c4 w4 hr4 hc4 hb4; have HB4 := Lib.hid (HB3.out.trans (hb4.mono HB3.out.size)); have HR4 := Lib.hid hr4; have HC4 := Lib.hid hc4; clear hr4 hc4 hb4)
    refine (Of_calls w4 (HG.out.below HB4.out).ge ⟨#[]⟩ ⟨#[]⟩ n A4 c4 fs HF.out.1 HR4.out HC4.out l).mono ?_
    rw [HPQ.out]
    rintro e w5 ⟨rfl, hb5⟩
    have HB5 := Lib.hid (HB4.out.trans (hb5.mono HB4.out.size))
    clear hb5
    simp only [frV]
    go_wp2_with fail
    refine (rOf_calls w5 n A c fs HF.out.1 (HR.out.below HB5.out) HC.out l).mono ?_
    rw [HPQ.out]
    rintro e w6 ⟨rfl, hb6⟩
    have HB6 := Lib.hid (HB5.out.trans (hb6.mono HB5.out.size))
    clear hb6
    simp only [frV]
    go_wp2_with fail
    go_ret
    exact ⟨rfl, HB6.out⟩
end Go.Proofs.YteneioapchhehaaDoor
