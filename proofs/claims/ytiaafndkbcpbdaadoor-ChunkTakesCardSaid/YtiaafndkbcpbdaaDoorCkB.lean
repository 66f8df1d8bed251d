/- A part of the proofs over package chunk. -/
import Derived.Test.YtiaafndkbcpbdaaDoorCkA
namespace Go.Proofs.YtiaafndkbcpbdaaDoor
open Go.RowKit

structure Rd where
  st : Int
  ln : Int
  mn : Int
  lf : Int

def RdAt (w : World) (g : Nat) (r : Rd) : Prop := w.heap[g]? = some (.cells #[.int .i64 r.st, .int .i64 r.ln, .int .i64 r.mn, .int .i64 r.lf] 48 (0, 0))

theorem RdAt.cells {w : World} {g : Nat} {r : Rd} (h : RdAt w g r) :
    w.cell? ⟨g, 0, none⟩ = some (.int .i64 r.st) ∧ w.cell? ⟨g, 1, none⟩ = some (.int .i64 r.ln) ∧ w.cell? ⟨g, 2, none⟩ = some (.int .i64 r.mn) ∧ w.cell? ⟨g, 3, none⟩ = some (.int .i64 r.lf) ∧
    w.frozen? ⟨g, 0, none⟩ = false ∧ w.frozen? ⟨g, 1, none⟩ = false ∧ w.frozen? ⟨g, 2, none⟩ = false ∧ w.frozen? ⟨g, 3, none⟩ = false :=
  ⟨(blk_cell h 0).trans rfl, (blk_cell h 1).trans rfl, (blk_cell h 2).trans rfl, (blk_cell h 3).trans rfl, blk_free h _, blk_free h _, blk_free h _, blk_free h _⟩

theorem RdAt.set0 {w : World} {g : Nat} {r : Rd} (h : RdAt w g r) (x : Int) : RdAt (w.setCell ⟨g, 0, none⟩ (.int .i64 x)) g { r with st := x } := blk_set h 0 _
theorem RdAt.set1 {w : World} {g : Nat} {r : Rd} (h : RdAt w g r) (x : Int) : RdAt (w.setCell ⟨g, 1, none⟩ (.int .i64 x)) g { r with ln := x } := blk_set h 1 _
theorem RdAt.set2 {w : World} {g : Nat} {r : Rd} (h : RdAt w g r) (x : Int) : RdAt (w.setCell ⟨g, 2, none⟩ (.int .i64 x)) g { r with mn := x } := blk_set h 2 _
theorem RdAt.set3 {w : World} {g : Nat} {r : Rd} (h : RdAt w g r) (x : Int) : RdAt (w.setCell ⟨g, 3, none⟩ (.int .i64 x)) g { r with lf := x } := blk_set h 3 _
theorem RdAt.drew {w : World} {g : Nat} {r : Rd} (h : RdAt w g r) : RdAt w.drew g r := h

set_option maxHeartbeats 400000 in
theorem more_calls (w : World) (g : Nat) (r : Rd) (h : RdAt w g r) (hb : 0 ≤ r.ln ∧ r.ln ≤ 1000) :
    Calls Tryd.prog 29 #[.pointer (some ⟨g, 0, none⟩)] w fun e w' => e = .returned (.bool (decide (r.ln + 1 ≤ 200))) ∧ w.setCell ⟨g, 1, none⟩ (.int .i64 (r.ln + 1)) = w' := by
  obtain ⟨st, ln, mn, lf⟩ := r
  obtain ⟨c0, c1, c2, c3, f0, f1, f2, f3⟩ := h.cells
  dsimp only at *
  obtain ⟨hb0, hb1⟩ := hb
  clear h
  go_enter Tryd.func29, Tryd.ntmps29
  go_wp2
  go_ret
  exact ⟨rfl, rfl⟩

def sizedN (lf : Int) : Int := if lf = 0 then 6 else 3
set_option maxHeartbeats 400000 in
theorem sized_calls (w : World) (g : Nat) (r : Rd) (h : RdAt w g r)  :
    Calls Tryd.prog 32 #[.pointer (some ⟨g, 0, none⟩)] w fun e w' => e = .returned (.int .i64 (sizedN r.lf)) ∧ w = w' := by
  obtain ⟨st, ln, mn, lf⟩ := r
  obtain ⟨c0, c1, c2, c3, f0, f1, f2, f3⟩ := h.cells
  dsimp only at *
  clear h
  by_cases h0 : lf = 0
  · subst h0
    rw [show sizedN 0 = 6 from rfl]
    go_enter Tryd.func32, Tryd.ntmps32
    go_wp2
    go_ret
    exact ⟨rfl, rfl⟩
  · rw [show sizedN lf = 3 from if_neg h0]
    have h1 : (lf == 0) = false := by simpa using h0
    go_enter Tryd.func32, Tryd.ntmps32
    go_wp2
    go_ret
    exact ⟨rfl, rfl⟩

set_option maxHeartbeats 400000 in
theorem expect_calls (w : World) (g : Nat) (r : Rd) (h : RdAt w g r) (c want next : Int) :
    Calls Tryd.prog 30 #[.pointer (some ⟨g, 0, none⟩), .int .u8 c, .int .u8 want, .int .i64 next] w fun e w' => e = .returned (.bool (c == want)) ∧ 
      (if c = want then (w.setCell ⟨g, 0, none⟩ (.int .i64 next)).setCell ⟨g, 1, none⟩ (.int .i64 0) else w) = w' := by
  obtain ⟨st, ln, mn, lf⟩ := r
  obtain ⟨c0, c1, c2, c3, f0, f1, f2, f3⟩ := h.cells
  dsimp only at *
  clear h
  by_cases h0 : c = want
  · subst h0
    rw [if_pos rfl]
    go_enter Tryd.func30, Tryd.ntmps30
    go_wp2
    go_ret
    exact ⟨by simp, rfl⟩
  · rw [if_neg h0]
    have h1 : (c == want) = false := by simpa using h0
    go_enter Tryd.func30, Tryd.ntmps30
    go_wp2
    go_ret
    exact ⟨by rw [h1]; rfl, rfl⟩

end Go.Proofs.YtiaafndkbcpbdaaDoor
