/- The reference of chapter 10: a byte (step): a trailer's beginning. -/
import Derived.Test.YteneioapchhehaaDoorRfE
namespace Go.Proofs.YteneioapchhehaaDoor
open Go.RowKit

set_option maxHeartbeats 8000000 in
set_option maxRecDepth 100000 in
theorem rstep_6b (x : RR) (hx : x.st = 6) (hm : 0 ≤ x.mn ∧ x.mn ≤ 1000) (c : Int) (hc : ¬ c = 13) (w : World) : Calls Tryd.prog 74 #[x.v, .int .u8 c] w (StP w ({ x with st := 7, ln := 1, mn := x.mn + 1 }, false, plainB c && decide (x.mn + 1 ≤ 64))) := by
  obtain ⟨st, dg, ln, mn, lf⟩ := x
  dsimp only at *
  subst hx
  have hc1 : (c == 13) = false := beq_eq_false_iff_ne.2 hc
  have hw : wrap64 (mn + 1) = mn + 1 := IntWalk.wrap64_in _ (by omega)
  have HT := Lib.hid (rtext_calls ⟨7, dg, 0, mn + 1, lf⟩ (by dsimp only; omega) c)
  dsimp only at HT
  obtain ⟨b, hb⟩ : ∃ b, plainB c = b := ⟨_, rfl⟩
  rw [hb] at HT ⊢
  rw [show decide ((0 : Int) + 1 ≤ 200) = true from rfl, Bool.and_true, show (0 : Int) + 1 = 1 from rfl] at HT
  unfold RR.v at HT
  unfold RR.v StP
  dsimp only
  clear hb hm hc
  go_enter Tryd.func74, Tryd.ntmps74
  go_wp2_with fail
  refine (HT.out _).mono ?_
  rintro e w1 ⟨rfl, hb1⟩
  have f5 := five (w1 := w1) (heap_alloc_new (w.alloc _) (Obj.cells #[Value.int IntKind.i64 0, Value.int IntKind.i64 0, Value.int IntKind.i64 0, Value.int IntKind.i64 0, Value.int IntKind.i64 0] 78)) (hb1.block _ (by simp))
  have f3 : w1.cell? ⟨w.heap.size, 3, none⟩ = some (.int .i64 (mn + 1)) := by
    rw [hb1.cell (by simp; omega)]
    simp [World.cell?, World.alloc, -World.alloc_eq, Array.getElem?_push]
  have fs := five_set (w1 := w1) (heap_alloc_new (w.alloc _) (Obj.cells #[Value.int IntKind.i64 0, Value.int IntKind.i64 0, Value.int IntKind.i64 0, Value.int IntKind.i64 0, Value.int IntKind.i64 0] 78)) (hb1.block _ (by simp))
  have hsz := hb1.size
  have HB := Lib.hid (show Below w.heap.size w w1 from (((Below.refl _ w).alloc (Nat.le_refl _) _).alloc (by simp) _).trans (hb1.mono (by simp; omega)))
  simp only [World.size_alloc] at f5 hsz fs
  obtain ⟨⟨e0, e1, e2, e3, e4⟩, g0, g1, g2, g3, g4⟩ := f5
  have hlt : w.heap.size + 1 < w1.heap.size := by omega
  have hlt0 : w.heap.size < w1.heap.size := by omega
  have hne : w.heap.size + 1 ≠ w1.heap.size := by omega
  have hne0 : w.heap.size ≠ w1.heap.size := by omega
  have k0 := fun o v0 v1 v2 v3 v4 => (fs o v0 v1 v2 v3 v4).1
  have k1 := fun o v0 v1 v2 v3 v4 => (fs o v0 v1 v2 v3 v4).2.1
  have k2 := fun o v0 v1 v2 v3 v4 => (fs o v0 v1 v2 v3 v4).2.2.1
  have k3 := fun o v0 v1 v2 v3 v4 => (fs o v0 v1 v2 v3 v4).2.2.2.1
  have k4 := fun o v0 v1 v2 v3 v4 => (fs o v0 v1 v2 v3 v4).2.2.2.2
  clear hb1 hsz fs
  cases b
  · (first | go_wp2_with fail | fail)
    (first | go_region | fail)
    all_goals (try (first | go_wp2_with fail | fail))
    all_goals (refine bodyPost_ret (by simp [results, Tryd.results74, go_sem, k0, k1, k2, k3, k4]; try rfl) rfl ?_)
    all_goals (have hb := HB.out; exact ⟨rfl, by go_grown⟩)
  · (first | go_wp2_with fail | fail)
    (first | go_region | fail)
    all_goals (try (first | go_wp2_with fail | fail))
    all_goals (refine bodyPost_ret (by simp [results, Tryd.results74, go_sem, k0, k1, k2, k3, k4]; try rfl) rfl ?_)
    all_goals (have hb := HB.out; exact ⟨rfl, by go_grown⟩)
end Go.Proofs.YteneioapchhehaaDoor
