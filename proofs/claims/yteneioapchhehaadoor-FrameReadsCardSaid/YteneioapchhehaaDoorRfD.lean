/- The reference of chapter 10: a byte (step). -/
import Derived.Test.YteneioapchhehaaDoorRfC
namespace Go.Proofs.YteneioapchhehaaDoor
open Go.RowKit

/-- a byte: where the body stands then, whether it is a chunk's, whether it may come -/
def stepR (x : RR) (c : Int) : RR × Bool × Bool :=
  if x.st = 0 then
    if c = 13 then ({ x with st := 2 }, false, decide (0 < x.dg))
    else if c = 59 ∧ 0 < x.dg then ({ x with st := 1, ln := x.ln + 1 }, false, decide (x.ln + 1 ≤ 200))
    else ({ x with dg := x.dg + 1, ln := x.ln + 1, lf := wrap64 (wrap64 (16 * x.lf) + hexV c) }, false, decide (0 ≤ hexV c) && decide (x.dg + 1 ≤ 15))
  else if x.st = 1 then
    if c = 13 then ({ x with st := 2 }, false, true) else ({ x with ln := x.ln + 1 }, false, plainB c && decide (x.ln + 1 ≤ 200))
  else if x.st = 2 then ({ x with st := if x.lf = 0 then 6 else 3, ln := 0 }, false, c == 10)
  else if x.st = 3 then ({ x with lf := x.lf - 1, st := if x.lf - 1 = 0 then 4 else 3 }, true, true)
  else if x.st = 4 then ({ x with st := 5 }, false, c == 13)
  else if x.st = 5 then (⟨0, 0, 0, 0, 0⟩, false, c == 10)
  else if x.st = 6 then
    if c = 13 then ({ x with st := 9 }, false, true) else ({ x with st := 7, ln := 1, mn := x.mn + 1 }, false, plainB c && decide (x.mn + 1 ≤ 64))
  else if x.st = 7 then
    if c = 13 then ({ x with st := 8 }, false, true) else ({ x with ln := x.ln + 1 }, false, plainB c && decide (x.ln + 1 ≤ 200))
  else if x.st = 8 then ({ x with st := 6 }, false, c == 10)
  else ({ x with st := 10 }, false, c == 10)

abbrev StP (w : World) (q : RR × Bool × Bool) (e : Ending) (w' : World) : Prop := e = .returned (.tuple #[q.1.v, .bool q.2.1, .bool q.2.2]) ∧ Below w.heap.size w w'

set_option maxHeartbeats 1000000 in
set_option maxRecDepth 100000 in
theorem rstep_9 (x : RR) (hx : x.st = 9) (c : Int) (w : World) : Calls Tryd.prog 74 #[x.v, .int .u8 c] w (StP w ({ x with st := 10 }, false, c == 10)) := by
  obtain ⟨st, dg, ln, mn, lf⟩ := x
  dsimp only at *
  subst hx
  unfold RR.v StP
  dsimp only
  go_enter Tryd.func74, Tryd.ntmps74
  go_wp2
  all_goals (try (first | go_region | fail))
  all_goals (try go_wp2)
  all_goals go_returns
  all_goals exact ⟨rfl, by go_grown⟩

set_option maxHeartbeats 1000000 in
set_option maxRecDepth 100000 in
theorem rstep_8 (x : RR) (hx : x.st = 8) (c : Int) (w : World) : Calls Tryd.prog 74 #[x.v, .int .u8 c] w (StP w ({ x with st := 6 }, false, c == 10)) := by
  obtain ⟨st, dg, ln, mn, lf⟩ := x
  dsimp only at *
  subst hx
  unfold RR.v StP
  dsimp only
  go_enter Tryd.func74, Tryd.ntmps74
  go_wp2
  all_goals (try (first | go_region | fail))
  all_goals (try go_wp2)
  all_goals go_returns
  all_goals exact ⟨rfl, by go_grown⟩

set_option maxHeartbeats 1000000 in
set_option maxRecDepth 100000 in
theorem rstep_5 (x : RR) (hx : x.st = 5) (c : Int) (w : World) : Calls Tryd.prog 74 #[x.v, .int .u8 c] w (StP w (⟨0, 0, 0, 0, 0⟩, false, c == 10)) := by
  obtain ⟨st, dg, ln, mn, lf⟩ := x
  dsimp only at *
  subst hx
  unfold RR.v StP
  dsimp only
  go_enter Tryd.func74, Tryd.ntmps74
  go_wp2
  all_goals (try (first | go_region | fail))
  all_goals (try go_wp2)
  all_goals go_returns
  all_goals exact ⟨rfl, by go_grown⟩

set_option maxHeartbeats 1000000 in
set_option maxRecDepth 100000 in
theorem rstep_4 (x : RR) (hx : x.st = 4) (c : Int) (w : World) : Calls Tryd.prog 74 #[x.v, .int .u8 c] w (StP w ({ x with st := 5 }, false, c == 13)) := by
  obtain ⟨st, dg, ln, mn, lf⟩ := x
  dsimp only at *
  subst hx
  unfold RR.v StP
  dsimp only
  go_enter Tryd.func74, Tryd.ntmps74
  go_wp2
  all_goals (try (first | go_region | fail))
  all_goals (try go_wp2)
  all_goals go_returns
  all_goals exact ⟨rfl, by go_grown⟩

set_option maxHeartbeats 1000000 in
set_option maxRecDepth 100000 in
theorem rstep_3a (x : RR) (hx : x.st = 3) (hl : x.lf = 1) (c : Int) (w : World) : Calls Tryd.prog 74 #[x.v, .int .u8 c] w (StP w ({ x with lf := 0, st := 4 }, true, true)) := by
  obtain ⟨st, dg, ln, mn, lf⟩ := x
  dsimp only at *
  subst hx
  subst hl
  unfold RR.v StP
  dsimp only
  go_enter Tryd.func74, Tryd.ntmps74
  go_wp2
  all_goals (try (first | go_region | fail))
  all_goals (try go_wp2)
  all_goals go_returns
  all_goals exact ⟨rfl, by go_grown⟩

set_option maxHeartbeats 1000000 in
set_option maxRecDepth 100000 in
theorem rstep_3b (x : RR) (hx : x.st = 3) (hl : 1 < x.lf ∧ x.lf ≤ 1152921504606846976) (c : Int) (w : World) : Calls Tryd.prog 74 #[x.v, .int .u8 c] w (StP w ({ x with lf := x.lf - 1, st := 3 }, true, true)) := by
  obtain ⟨st, dg, ln, mn, lf⟩ := x
  dsimp only at *
  subst hx
  have hw : wrap64 (lf - 1) = lf - 1 := IntWalk.wrap64_in _ (by omega)
  have hz : (lf - 1 == 0) = false := beq_eq_false_iff_ne.2 (by omega)
  unfold RR.v StP
  dsimp only
  go_enter Tryd.func74, Tryd.ntmps74
  go_wp2
  all_goals (try (first | go_region | fail))
  all_goals (try go_wp2)
  all_goals go_returns
  all_goals exact ⟨rfl, by go_grown⟩

set_option maxHeartbeats 1000000 in
set_option maxRecDepth 100000 in
theorem rstep_2a (x : RR) (hx : x.st = 2) (hl : x.lf = 0) (c : Int) (w : World) : Calls Tryd.prog 74 #[x.v, .int .u8 c] w (StP w ({ x with st := 6, ln := 0 }, false, c == 10)) := by
  obtain ⟨st, dg, ln, mn, lf⟩ := x
  dsimp only at *
  subst hx
  subst hl
  unfold RR.v StP
  dsimp only
  go_enter Tryd.func74, Tryd.ntmps74
  go_wp2
  all_goals (try (first | go_region | fail))
  all_goals (try go_wp2)
  all_goals go_returns
  all_goals exact ⟨rfl, by go_grown⟩

set_option maxHeartbeats 1000000 in
set_option maxRecDepth 100000 in
theorem rstep_2b (x : RR) (hx : x.st = 2) (hl : ¬ x.lf = 0) (c : Int) (w : World) : Calls Tryd.prog 74 #[x.v, .int .u8 c] w (StP w ({ x with st := 3, ln := 0 }, false, c == 10)) := by
  obtain ⟨st, dg, ln, mn, lf⟩ := x
  dsimp only at *
  subst hx
  have hz : (lf == 0) = false := beq_eq_false_iff_ne.2 hl
  unfold RR.v StP
  dsimp only
  go_enter Tryd.func74, Tryd.ntmps74
  go_wp2
  all_goals (try (first | go_region | fail))
  all_goals (try go_wp2)
  all_goals go_returns
  all_goals exact ⟨rfl, by go_grown⟩

set_option maxHeartbeats 1000000 in
set_option maxRecDepth 100000 in
theorem rstep_1a (x : RR) (hx : x.st = 1) (c : Int) (hc : c = 13) (w : World) : Calls Tryd.prog 74 #[x.v, .int .u8 c] w (StP w ({ x with st := 2 }, false, true)) := by
  obtain ⟨st, dg, ln, mn, lf⟩ := x
  dsimp only at *
  subst hx
  subst hc
  unfold RR.v StP
  dsimp only
  go_enter Tryd.func74, Tryd.ntmps74
  go_wp2
  all_goals (try (first | go_region | fail))
  all_goals (try go_wp2)
  all_goals go_returns
  all_goals exact ⟨rfl, by go_grown⟩

set_option maxHeartbeats 1000000 in
set_option maxRecDepth 100000 in
theorem rstep_7a (x : RR) (hx : x.st = 7) (c : Int) (hc : c = 13) (w : World) : Calls Tryd.prog 74 #[x.v, .int .u8 c] w (StP w ({ x with st := 8 }, false, true)) := by
  obtain ⟨st, dg, ln, mn, lf⟩ := x
  dsimp only at *
  subst hx
  subst hc
  unfold RR.v StP
  dsimp only
  go_enter Tryd.func74, Tryd.ntmps74
  go_wp2
  all_goals (try (first | go_region | fail))
  all_goals (try go_wp2)
  all_goals go_returns
  all_goals exact ⟨rfl, by go_grown⟩

set_option maxHeartbeats 1000000 in
set_option maxRecDepth 100000 in
theorem rstep_6a (x : RR) (hx : x.st = 6) (c : Int) (hc : c = 13) (w : World) : Calls Tryd.prog 74 #[x.v, .int .u8 c] w (StP w ({ x with st := 9 }, false, true)) := by
  obtain ⟨st, dg, ln, mn, lf⟩ := x
  dsimp only at *
  subst hx
  subst hc
  unfold RR.v StP
  dsimp only
  go_enter Tryd.func74, Tryd.ntmps74
  go_wp2
  all_goals (try (first | go_region | fail))
  all_goals (try go_wp2)
  all_goals go_returns
  all_goals exact ⟨rfl, by go_grown⟩

set_option maxHeartbeats 1000000 in
set_option maxRecDepth 100000 in
theorem rstep_0a (x : RR) (hx : x.st = 0) (c : Int) (hc : c = 13) (w : World) : Calls Tryd.prog 74 #[x.v, .int .u8 c] w (StP w ({ x with st := 2 }, false, decide (0 < x.dg))) := by
  obtain ⟨st, dg, ln, mn, lf⟩ := x
  dsimp only at *
  subst hx
  subst hc
  unfold RR.v StP
  dsimp only
  go_enter Tryd.func74, Tryd.ntmps74
  go_wp2
  all_goals (try (first | go_region | fail))
  all_goals (try go_wp2)
  all_goals go_returns
  all_goals exact ⟨rfl, by go_grown⟩

set_option maxHeartbeats 1000000 in
set_option maxRecDepth 100000 in
theorem rstep_0b (x : RR) (hx : x.st = 0) (hd : 0 < x.dg) (hl : 0 ≤ x.ln ∧ x.ln ≤ 1000) (c : Int) (hc : c = 59) (w : World) : Calls Tryd.prog 74 #[x.v, .int .u8 c] w (StP w ({ x with st := 1, ln := x.ln + 1 }, false, decide (x.ln + 1 ≤ 200))) := by
  obtain ⟨st, dg, ln, mn, lf⟩ := x
  dsimp only at *
  subst hx
  subst hc
  have hw : wrap64 (ln + 1) = ln + 1 := IntWalk.wrap64_in _ (by omega)
  have hd1 : decide (0 < dg) = true := decide_eq_true hd
  unfold RR.v StP
  dsimp only
  go_enter Tryd.func74, Tryd.ntmps74
  go_wp2
  all_goals (try (first | go_region | fail))
  all_goals (try go_wp2)
  all_goals go_returns
  all_goals exact ⟨rfl, by go_grown⟩

end Go.Proofs.YteneioapchhehaaDoor
