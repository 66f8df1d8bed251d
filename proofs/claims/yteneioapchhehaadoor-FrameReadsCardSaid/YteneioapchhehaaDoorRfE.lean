/- The reference of chapter 10: a byte (step), the paths that call. -/
import Derived.Test.YteneioapchhehaaDoorRfD
namespace Go.Proofs.YteneioapchhehaaDoor
open Go.RowKit

theorem five {w w1 : World} {g : Nat} {a b c d e : Value} {t : TypeId} (h : w.heap[g]? = some (.cells #[a, b, c, d, e] t (0, 0))) (hb : w1.heap[g]? = w.heap[g]?) :
    (w1.cell? ⟨g, 0, none⟩ = some a ∧ w1.cell? ⟨g, 1, none⟩ = some b ∧ w1.cell? ⟨g, 2, none⟩ = some c ∧ w1.cell? ⟨g, 3, none⟩ = some d ∧ w1.cell? ⟨g, 4, none⟩ = some e) ∧
    (w1.frozen? ⟨g, 0, none⟩ = false ∧ w1.frozen? ⟨g, 1, none⟩ = false ∧ w1.frozen? ⟨g, 2, none⟩ = false ∧ w1.frozen? ⟨g, 3, none⟩ = false ∧ w1.frozen? ⟨g, 4, none⟩ = false) := by
  have h1 := hb.trans h
  exact ⟨⟨(blk_cell h1 0).trans rfl, (blk_cell h1 1).trans rfl, (blk_cell h1 2).trans rfl, (blk_cell h1 3).trans rfl, (blk_cell h1 4).trans rfl⟩, blk_free h1 0, blk_free h1 1, blk_free h1 2, blk_free h1 3, blk_free h1 4⟩

theorem five_set {w w1 : World} {g : Nat} {a b c d e : Value} {t : TypeId} (h : w.heap[g]? = some (.cells #[a, b, c, d, e] t (0, 0))) (hb : w1.heap[g]? = w.heap[g]?) (o : Obj) (v0 v1 v2 v3 v4 : Value) :
    (((((((w1.setCell ⟨g, 0, none⟩ v0).setCell ⟨g, 1, none⟩ v1).setCell ⟨g, 2, none⟩ v2).setCell ⟨g, 3, none⟩ v3).setCell ⟨g, 4, none⟩ v4).alloc o).cell? ⟨g, 0, none⟩ = some v0) ∧
    (((((((w1.setCell ⟨g, 0, none⟩ v0).setCell ⟨g, 1, none⟩ v1).setCell ⟨g, 2, none⟩ v2).setCell ⟨g, 3, none⟩ v3).setCell ⟨g, 4, none⟩ v4).alloc o).cell? ⟨g, 1, none⟩ = some v1) ∧
    (((((((w1.setCell ⟨g, 0, none⟩ v0).setCell ⟨g, 1, none⟩ v1).setCell ⟨g, 2, none⟩ v2).setCell ⟨g, 3, none⟩ v3).setCell ⟨g, 4, none⟩ v4).alloc o).cell? ⟨g, 2, none⟩ = some v2) ∧
    (((((((w1.setCell ⟨g, 0, none⟩ v0).setCell ⟨g, 1, none⟩ v1).setCell ⟨g, 2, none⟩ v2).setCell ⟨g, 3, none⟩ v3).setCell ⟨g, 4, none⟩ v4).alloc o).cell? ⟨g, 3, none⟩ = some v3) ∧
    (((((((w1.setCell ⟨g, 0, none⟩ v0).setCell ⟨g, 1, none⟩ v1).setCell ⟨g, 2, none⟩ v2).setCell ⟨g, 3, none⟩ v3).setCell ⟨g, 4, none⟩ v4).alloc o).cell? ⟨g, 4, none⟩ = some v4) := by
  have h1 := blk_set (blk_set (blk_set (blk_set (blk_set (hb.trans h) 0 v0) 1 v1) 2 v2) 3 v3) 4 v4
  have h2 : (((((((w1.setCell ⟨g, 0, none⟩ v0).setCell ⟨g, 1, none⟩ v1).setCell ⟨g, 2, none⟩ v2).setCell ⟨g, 3, none⟩ v3).setCell ⟨g, 4, none⟩ v4).alloc o).heap[g]? = _) := (Below.heap_alloc _ _ _ (lt_of_block h1)).trans h1
  exact ⟨(blk_cell h2 0).trans rfl, (blk_cell h2 1).trans rfl, (blk_cell h2 2).trans rfl, (blk_cell h2 3).trans rfl, (blk_cell h2 4).trans rfl⟩

set_option maxHeartbeats 8000000 in
set_option maxRecDepth 100000 in
theorem rstep_1b (x : RR) (hx : x.st = 1) (hl : 0 ≤ x.ln ∧ x.ln ≤ 1000) (c : Int) (hc : ¬ c = 13) (w : World) : Calls Tryd.prog 74 #[x.v, .int .u8 c] w (StP w ({ x with ln := x.ln + 1 }, false, plainB c && decide (x.ln + 1 ≤ 200))) := by
  obtain ⟨st, dg, ln, mn, lf⟩ := x
  dsimp only at *
  subst hx
  have hc1 : (c == 13) = false := beq_eq_false_iff_ne.2 hc
  have HT := Lib.hid (rtext_calls ⟨1, dg, ln, mn, lf⟩ hl c)
  dsimp only at HT
  obtain ⟨b, hb⟩ : ∃ b, (plainB c && decide (ln + 1 ≤ 200)) = b := ⟨_, rfl⟩
  rw [hb] at HT ⊢
  unfold RR.v at HT
  unfold RR.v StP
  dsimp only
  clear hb hl hc
  go_enter Tryd.func74, Tryd.ntmps74
  go_wp2_with fail
  refine (HT.out _).mono ?_
  rintro e w1 ⟨rfl, hb1⟩
  have f5 := five (w1 := w1) (heap_alloc_new (w.alloc _) (Obj.cells #[Value.int IntKind.i64 0, Value.int IntKind.i64 0, Value.int IntKind.i64 0, Value.int IntKind.i64 0, Value.int IntKind.i64 0] 78)) (hb1.block _ (by simp))
  have fs := five_set (w1 := w1) (heap_alloc_new (w.alloc _) (Obj.cells #[Value.int IntKind.i64 0, Value.int IntKind.i64 0, Value.int IntKind.i64 0, Value.int IntKind.i64 0, Value.int IntKind.i64 0] 78)) (hb1.block _ (by simp))
  have hsz := hb1.size
  have HB := Lib.hid (show Below w.heap.size w w1 from (((Below.refl _ w).alloc (Nat.le_refl _) _).alloc (by simp) _).trans (hb1.mono (by simp; omega)))
  simp only [World.size_alloc] at f5 hsz fs
  obtain ⟨⟨e0, e1, e2, e3, e4⟩, g0, g1, g2, g3, g4⟩ := f5
  have hlt : w.heap.size + 1 < w1.heap.size := by omega
  have hne : w.heap.size + 1 ≠ w1.heap.size := by omega
  have k0 := fun o v0 v1 v2 v3 v4 => (fs o v0 v1 v2 v3 v4).1
  have k1 := fun o v0 v1 v2 v3 v4 => (fs o v0 v1 v2 v3 v4).2.1
  have k2 := fun o v0 v1 v2 v3 v4 => (fs o v0 v1 v2 v3 v4).2.2.1
  have k3 := fun o v0 v1 v2 v3 v4 => (fs o v0 v1 v2 v3 v4).2.2.2.1
  have k4 := fun o v0 v1 v2 v3 v4 => (fs o v0 v1 v2 v3 v4).2.2.2.2
  clear hb1 hsz fs
  (first | go_wp2_with fail | fail)
  refine bodyPost_ret (by simp [results, Tryd.results74, go_sem, k0, k1, k2, k3, k4]; try rfl) rfl ?_
  have hb := HB.out
  exact ⟨rfl, by go_grown⟩

set_option maxHeartbeats 8000000 in
set_option maxRecDepth 100000 in
theorem rstep_7b (x : RR) (hx : x.st = 7) (hl : 0 ≤ x.ln ∧ x.ln ≤ 1000) (c : Int) (hc : ¬ c = 13) (w : World) : Calls Tryd.prog 74 #[x.v, .int .u8 c] w (StP w ({ x with ln := x.ln + 1 }, false, plainB c && decide (x.ln + 1 ≤ 200))) := by
  obtain ⟨st, dg, ln, mn, lf⟩ := x
  dsimp only at *
  subst hx
  have hc1 : (c == 13) = false := beq_eq_false_iff_ne.2 hc
  have HT := Lib.hid (rtext_calls ⟨7, dg, ln, mn, lf⟩ hl c)
  dsimp only at HT
  obtain ⟨b, hb⟩ : ∃ b, (plainB c && decide (ln + 1 ≤ 200)) = b := ⟨_, rfl⟩
  rw [hb] at HT ⊢
  unfold RR.v at HT
  unfold RR.v StP
  dsimp only
  clear hb hl hc
  go_enter Tryd.func74, Tryd.ntmps74
  go_wp2_with fail
  refine (HT.out _).mono ?_
  rintro e w1 ⟨rfl, hb1⟩
  have f5 := five (w1 := w1) (heap_alloc_new (w.alloc _) (Obj.cells #[Value.int IntKind.i64 0, Value.int IntKind.i64 0, Value.int IntKind.i64 0, Value.int IntKind.i64 0, Value.int IntKind.i64 0] 78)) (hb1.block _ (by simp))
  have fs := five_set (w1 := w1) (heap_alloc_new (w.alloc _) (Obj.cells #[Value.int IntKind.i64 0, Value.int IntKind.i64 0, Value.int IntKind.i64 0, Value.int IntKind.i64 0, Value.int IntKind.i64 0] 78)) (hb1.block _ (by simp))
  have hsz := hb1.size
  have HB := Lib.hid (show Below w.heap.size w w1 from (((Below.refl _ w).alloc (Nat.le_refl _) _).alloc (by simp) _).trans (hb1.mono (by simp; omega)))
  simp only [World.size_alloc] at f5 hsz fs
  obtain ⟨⟨e0, e1, e2, e3, e4⟩, g0, g1, g2, g3, g4⟩ := f5
  have hlt : w.heap.size + 1 < w1.heap.size := by omega
  have hne : w.heap.size + 1 ≠ w1.heap.size := by omega
  have k0 := fun o v0 v1 v2 v3 v4 => (fs o v0 v1 v2 v3 v4).1
  have k1 := fun o v0 v1 v2 v3 v4 => (fs o v0 v1 v2 v3 v4).2.1
  have k2 := fun o v0 v1 v2 v3 v4 => (fs o v0 v1 v2 v3 v4).2.2.1
  have k3 := fun o v0 v1 v2 v3 v4 => (fs o v0 v1 v2 v3 v4).2.2.2.1
  have k4 := fun o v0 v1 v2 v3 v4 => (fs o v0 v1 v2 v3 v4).2.2.2.2
  clear hb1 hsz fs
  (first | go_wp2_with fail | fail)
  refine bodyPost_ret (by simp [results, Tryd.results74, go_sem, k0, k1, k2, k3, k4]; try rfl) rfl ?_
  have hb := HB.out
  exact ⟨rfl, by go_grown⟩
end Go.Proofs.YteneioapchhehaaDoor
