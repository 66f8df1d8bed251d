/- More of what all the proofs share: appends under a guard, the empty row. -/
import Derived.Test.YtiaafndkbcpbdaaDoorBase
namespace Go.Proofs.YtiaafndkbcpbdaaDoor
open Go.RowKit

theorem wp_app_g {w : World} {ops : Array Oper} {rest : List Oper} {o : Oper} {a : Act} {Q : Exit → Act → World → Prop} (hw : Region.wanted o (yielded ops a.tmps) = true) (s x : Operand)
    (ho : o.op = .call { callee := .builtin .append, args := #[s, x], argTypes := #[24, 24] })
    (B : Nat) (v : Value) (out : List UInt8) (hs : a.eval s = v) (hown : Ow w B v out) (ao : Option Addr) (m c : Nat) (hx : a.eval x = .slice ao m c) (l : List UInt8) (hm : l.length = m) (hB : Bs w ao l) (hc : ao = none → c = 0)
    (hsz : out.length + m ≤ 70368744177664) (hbase : B ≤ w.heap.size)
    (h : ∀ v' w', Ow w' B v' (out ++ l) → w.grownBy w' v.ownBlock → ((v' = .slice none 0 0 ↔ v = .slice none 0 0 ∧ m = 0) ∧ (∀ k, v'.ownBlock = some k → v.ownBlock = some k ∨ w.heap.size ≤ k)) → wpList Tryd.prog ops Q rest (a.put o.dst v') w') : wpList Tryd.prog ops Q (o :: rest) a w := by
  refine BigFrame.wpList_want hw fun K hK => ?_
  obtain ⟨v', w', hr, h2, h3, h4⟩ := run_app w B o.type v out hown ao m c l hm hB hc hsz hbase
  unfold Oper.wp execOp
  simp only [ho, resolve, invoke, builtin, Sem.run_bind, Sem.run_pure, Result.andThen_ok, List.map_toArray, List.map_cons, List.map_nil, hs, hx, hr]
  exact hK _ _ (h v' w' h2 h3 h4)
/-- '[]byte{}' is owned -/
theorem Ow.lit0 (w : World) (B : Nat) (hB : B ≤ w.heap.size) : Ow (w.alloc (.cells #[] 5)) B (.slice (some ⟨w.heap.size, 0, none⟩) 0 0) [] :=
  ⟨rfl, .inr ⟨w.heap.size, 0, #[], (0, 0), rfl, hB, heap_alloc_new w _, fun j _ h => by omega, Nat.le_refl _, Nat.zero_le _, rfl, rfl⟩⟩
theorem Ow.of_bs {w : World} {B : Nat} {v : Value} {l : List UInt8} (h : Ow w B v l) : ∃ ao c, v = .slice ao l.length c ∧ Bs w ao l ∧ l.length ≤ c ∧ (ao = none → c = 0) := by
  obtain ⟨ao, c, h1, h2, h3, -, h5⟩ := h.bs'
  exact ⟨ao, c, h1, h2, h3, h5⟩
/-- a slice of bytes, sliced: its beginning -/
theorem sliced_to (a : Option Addr) (k c s : Nat) : sliced a 0 k c s = .slice a k c := by
  unfold sliced
  cases a with
  | none => simp
  | some ad =>
    obtain ⟨b, off, sp⟩ := ad
    simp [Addr.add]
theorem elem_bytes : Tryd.prog.underlying 24 = some (.slice (Tryd.prog.elem 24)) := by kernel_rfl
theorem size_bytes (w : World) : (sizeOf (Tryd.prog.elem 24)).run Tryd.prog w = .ok 1 w := by
  have h : Tryd.prog.elem 24 = 5 := by kernel_rfl
  rw [h]
  rfl
theorem run_sliceTo (w : World) (ao : Option Addr) (n c k : Nat) (hk : k ≤ c) : (Instr.sliceAt 24 (.slice ao n c) none (some (.int .i64 k)) none).run Tryd.prog w = .ok (.slice ao k c) w := by
  rw [run_sliceAt_slice (P := Tryd.prog) (w := w) 24 _ _ _ _ elem_bytes, run_slice_h (P := Tryd.prog) (w := w) 24 ao n c elem_bytes .i64 k (by omega) (by omega), size_bytes, Result.andThen_ok, sliced_to]
  rfl
/-- .. and what is behind -/
def fromA (a : Option Addr) (c k : Nat) : Option Addr := if c = k then a else a.map (·.add (k * 1))
theorem run_sliceFrom (w : World) (ao : Option Addr) (n c k : Nat) (hk : k ≤ n) : (Instr.sliceAt 24 (.slice ao n c) (some (.int .i64 k)) none none).run Tryd.prog w = .ok (.slice (fromA ao c k) (n - k) (c - k)) w := by
  rw [run_sliceAt_slice (P := Tryd.prog) (w := w) 24 _ _ _ _ elem_bytes, run_slice_l (P := Tryd.prog) (w := w) 24 ao n c elem_bytes .i64 k (by omega) (by omega), size_bytes, Result.andThen_ok]
  rfl
theorem run_sliceBetween (w : World) (ao : Option Addr) (n c k h : Nat) (hk : k ≤ h) (hh : h ≤ c) : (Instr.sliceAt 24 (.slice ao n c) (some (.int .i64 k)) (some (.int .i64 h)) none).run Tryd.prog w = .ok (.slice (fromA ao c k) (h - k) (c - k)) w := by
  rw [run_sliceAt_slice (P := Tryd.prog) (w := w) 24 _ _ _ _ elem_bytes, run_slice_lh (P := Tryd.prog) (w := w) 24 ao n c elem_bytes .i64 .i64 k h (by omega) (by omega) (by omega), size_bytes, Result.andThen_ok]
  rfl
theorem fromA_none {a : Option Addr} {c k : Nat} (h : fromA a c k = none) : a = none := by
  unfold fromA at h
  split at h
  · exact h
  · cases a
    · rfl
    · cases h
theorem Bs.from {w : World} {ao : Option Addr} {l : List UInt8} (h : Bs w ao l) (c k : Nat) (hc : l.length ≤ c) : Bs w (fromA ao c k) (l.drop k) := by
  by_cases hk : k < l.length
  · obtain ⟨b, off, rfl⟩ := h.some_of (by omega)
    unfold fromA
    rw [if_neg (by omega)]
    have := h.drop k
    rw [show (some (⟨b, off, none⟩ : Addr)).map (·.add (k * 1)) = some ⟨b, off + k, none⟩ from by simp [Addr.add]]
    exact this
  · rw [List.drop_eq_nil_of_le (by omega)]
    exact Bs.empty w _
end Go.Proofs.YtiaafndkbcpbdaaDoor
