/- The reference of chapter 10: a byte (step): a size's digit. -/
import Derived.Test.YteneioapchhehaaDoorRfD
namespace Go.Proofs.YteneioapchhehaaDoor
open Go.RowKit

theorem hexV_rng (c : Int) : -1 ≤ hexV c ∧ hexV c ≤ 15 := by
  unfold hexV
  (repeat' split) <;> omega

set_option maxHeartbeats 4000000 in
set_option maxRecDepth 100000 in
theorem rstep_0c1 (x : RR) (hx : x.st = 0) (hd : 0 ≤ x.dg ∧ x.dg ≤ 1000) (hl : 0 ≤ x.ln ∧ x.ln ≤ 1000) (c : Int) (hc : 0 ≤ c ∧ c ≤ 255) (hc13 : ¬ c = 13) (h59 : ¬ c = 59) (hh : 0 ≤ hexV c) (w : World) :
    Calls Tryd.prog 74 #[x.v, .int .u8 c] w (StP w ({ x with dg := x.dg + 1, ln := x.ln + 1, lf := wrap64 (wrap64 (16 * x.lf) + hexV c) }, false, decide (x.dg + 1 ≤ 15))) := by
  obtain ⟨st, dg, ln, mn, lf⟩ := x
  dsimp only at *
  subst hx
  have e1 : (c == 13) = false := beq_eq_false_iff_ne.2 hc13
  have e2 : (c == 59) = false := beq_eq_false_iff_ne.2 h59
  have HT := Lib.hid (fun w => rhex_calls c hc w)
  obtain ⟨n, hn⟩ : ∃ n, hexV c = n := ⟨_, rfl⟩
  rw [hn] at HT ⊢ hh
  have e3 : decide (0 ≤ n) = true := decide_eq_true hh
  have w1 : wrap64 (dg + 1) = dg + 1 := IntWalk.wrap64_in _ (by omega)
  have w2 : wrap64 (ln + 1) = ln + 1 := IntWalk.wrap64_in _ (by omega)
  unfold RR.v StP
  dsimp only
  clear hn hd hl hc hc13 h59
  go_enter Tryd.func74, Tryd.ntmps74
  go_wp2_with (go_at_call 92; refine (HT.out _).mono ?_; rintro e w' ⟨rfl, rfl⟩)
  all_goals (try (first | go_region | fail))
  all_goals (try go_wp2)
  all_goals go_returns
  all_goals exact ⟨rfl, by go_grown⟩

set_option maxHeartbeats 4000000 in
set_option maxRecDepth 100000 in
theorem rstep_0c2 (x : RR) (hx : x.st = 0) (hd : 0 ≤ x.dg ∧ x.dg ≤ 1000) (hl : 0 ≤ x.ln ∧ x.ln ≤ 1000) (c : Int) (hc : 0 ≤ c ∧ c ≤ 255) (hc13 : ¬ c = 13) (h59 : ¬ c = 59) (hh : ¬ 0 ≤ hexV c) (w : World) :
    Calls Tryd.prog 74 #[x.v, .int .u8 c] w (StP w ({ x with dg := x.dg + 1, ln := x.ln + 1, lf := wrap64 (wrap64 (16 * x.lf) + hexV c) }, false, false)) := by
  obtain ⟨st, dg, ln, mn, lf⟩ := x
  dsimp only at *
  subst hx
  have e1 : (c == 13) = false := beq_eq_false_iff_ne.2 hc13
  have e2 : (c == 59) = false := beq_eq_false_iff_ne.2 h59
  have HT := Lib.hid (fun w => rhex_calls c hc w)
  obtain ⟨n, hn⟩ : ∃ n, hexV c = n := ⟨_, rfl⟩
  rw [hn] at HT ⊢ hh
  have e3 : decide (0 ≤ n) = false := decide_eq_false hh
  have w1 : wrap64 (dg + 1) = dg + 1 := IntWalk.wrap64_in _ (by omega)
  have w2 : wrap64 (ln + 1) = ln + 1 := IntWalk.wrap64_in _ (by omega)
  unfold RR.v StP
  dsimp only
  clear hn hd hl hc hc13 h59
  go_enter Tryd.func74, Tryd.ntmps74
  go_wp2_with (go_at_call 92; refine (HT.out _).mono ?_; rintro e w' ⟨rfl, rfl⟩)
  all_goals (try (first | go_region | fail))
  all_goals (try go_wp2)
  all_goals go_returns
  all_goals exact ⟨rfl, by go_grown⟩

set_option maxHeartbeats 4000000 in
set_option maxRecDepth 100000 in
theorem rstep_0c3 (x : RR) (hx : x.st = 0) (hd : 0 ≤ x.dg ∧ x.dg ≤ 1000) (hl : 0 ≤ x.ln ∧ x.ln ≤ 1000) (c : Int) (hc : 0 ≤ c ∧ c ≤ 255) (hc13 : ¬ c = 13) (h59 : c = 59) (hdz : ¬ 0 < x.dg) (hh : ¬ 0 ≤ hexV c) (w : World) :
    Calls Tryd.prog 74 #[x.v, .int .u8 c] w (StP w ({ x with dg := x.dg + 1, ln := x.ln + 1, lf := wrap64 (wrap64 (16 * x.lf) + hexV c) }, false, false)) := by
  obtain ⟨st, dg, ln, mn, lf⟩ := x
  dsimp only at *
  subst hx
  have e1 : (c == 13) = false := beq_eq_false_iff_ne.2 hc13
  have e2 : (c == 59) = true := beq_iff_eq.2 h59
  have e4 : decide (0 < dg) = false := decide_eq_false hdz
  have HT := Lib.hid (fun w => rhex_calls c hc w)
  obtain ⟨n, hn⟩ : ∃ n, hexV c = n := ⟨_, rfl⟩
  rw [hn] at HT ⊢ hh
  have e3 : decide (0 ≤ n) = false := decide_eq_false hh
  have w1 : wrap64 (dg + 1) = dg + 1 := IntWalk.wrap64_in _ (by omega)
  have w2 : wrap64 (ln + 1) = ln + 1 := IntWalk.wrap64_in _ (by omega)
  unfold RR.v StP
  dsimp only
  clear hn hd hl hc hc13 h59 hdz
  go_enter Tryd.func74, Tryd.ntmps74
  go_wp2_with (go_at_call 92; refine (HT.out _).mono ?_; rintro e w' ⟨rfl, rfl⟩)
  all_goals (try (first | go_region | fail))
  all_goals (try go_wp2)
  all_goals go_returns
  all_goals exact ⟨rfl, by go_grown⟩
end Go.Proofs.YteneioapchhehaaDoor
