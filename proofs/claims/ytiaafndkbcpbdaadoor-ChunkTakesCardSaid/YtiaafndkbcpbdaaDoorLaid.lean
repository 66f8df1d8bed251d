/- What the rows' list of package-level variables gives the walks, and a world for the witness. -/
import Derived.Test.YtiaafndkbcpbdaaDoorRows
import Derived.Test.YtiaafndkbcpbdaaDoorCkL
import Derived.ProofKit
import Derived.OpenShut
import Derived.Deep.DeepHandedRow
import Derived.Deep.DeepWitnessRowRef
import Derived.Lib.LaidTab
import Derived.Stop.LaidErr
namespace Go.Proofs.YtiaafndkbcpbdaaDoor
open Go.ChangeShapes Go.WideShapes Go.ChangeAt Go.RowKit

theorem own_knob : ownKnob Tryd.prog.godebug = none := by kernel_rfl
theorem laid_out : laidOutB Tryd.prog = true := by kernel_rfl
theorem es_star : "*" ++ "errors.errorString" = "*errors.errorString" := by decide
theorem es_row (u : TypeId) (h : Tryd.prog.typeName? 3 u = some "*errors.errorString") : u = 96 :=
  typeName_ptr_named (nm := "errors.errorString") (by rw [es_star]; kernel_rfl) (by kernel_rfl) (by decide) u (by rw [es_star]; exact h)

def laidL : List (String × DataW Unit) := [("math/bits.deBruijn32tab", Rows.laid_math_bits_deBruijn32tab), ("math/bits.deBruijn64tab", Rows.laid_math_bits_deBruijn64tab), ("internal/strconv.uint64pow10", Rows.laid_internal_strconv_uint64pow10), ("strconv.ErrRange", Rows.laid_strconv_ErrRange), ("strconv.ErrSyntax", Rows.laid_strconv_ErrSyntax)]

abbrev deb64L : List Int := [0, 1, 56, 2, 57, 49, 28, 3, 61, 58, 42, 50, 38, 29, 17, 4, 62, 47, 59, 36, 45, 43, 51, 22, 53, 39, 33, 30, 24, 18, 12, 5, 63, 55, 48, 27, 60, 41, 37, 16, 46, 35, 44, 21, 52, 32, 23, 11, 54, 26, 40, 15, 34, 20, 31, 10, 25, 14, 19, 9, 13, 8, 7, 6]

/-- the package variables, off the row's list -/
theorem gv_of_laid {W : World} (h : laidMetH Tryd.prog laidL W) : Gv W := by
  have hL : laidMet Tryd.prog laidL W := h
  have h1 : laidMet Tryd.prog (laidL.drop 1) W := hL.tail
  have h4 : laidMet Tryd.prog (laidL.drop 4) W := hL.tail.tail.tail.tail
  have ht : Lib.TabIs Tryd.prog W "math/bits.deBruijn64tab" .u8 deb64L :=
    Lib.tabIs_of_head (rest := laidL.drop 2) (g := 4) (t := 100) (e := 5) (n := 64) (by kernel_rfl) (by kernel_rfl) (by kernel_rfl) (by kernel_rfl) (by kernel_rfl) (by kernel_rfl) h1
  obtain ⟨a0, t0, hv0, hc0, -, -⟩ := laid_sentinel (r := []) (g := 1) (ti := 66) (tp := 96) (te := 98) (ts := 9) h4 (by kernel_rfl) (by kernel_rfl) Tryd.underlying66 es_row Tryd.underlying96 Tryd.underlying98 rfl rfl Tryd.underlying9 (by kernel_rfl) (by kernel_rfl)
  refine ⟨ht.cell (by kernel_rfl) 15 (by decide), ?_⟩
  have := World.var?_cell (g := 1) (by kernel_rfl) hv0 0
  exact ⟨_, by simpa using this, .inr ⟨_, _, rfl⟩⟩

/-- a world for the witness: the settled one with two blocks more (the errors' structs), the variables as their initialisers lay them -/
noncomputable def laidWorld (os : Os) : World :=
  let N := (World.settled Tryd.prog os).heap.size
  let w0 := World.holding Tryd.prog os ⟨#[.cells #[.string ⟨#[118, 97, 108, 117, 101, 32, 111, 117, 116, 32, 111, 102, 32, 114, 97, 110, 103, 101]⟩] 98, .cells #[.string ⟨#[105, 110, 118, 97, 108, 105, 100, 32, 115, 121, 110, 116, 97, 120]⟩] 98], #[], []⟩
  let put (h : Array Obj) (g : Nat) (cs : Array Value) : Array Obj := h.modify g fun
    | .cells _ t frozen => .cells cs t frozen
    | o => o
  let h1 := put w0.heap 2 #[.iface 96 (.pointer (some ⟨N, 0, none⟩))]
  let h2 := put h1 1 #[.iface 96 (.pointer (some ⟨N + 1, 0, none⟩))]
  let h3 := put h2 4 (deb64L.map fun z => Value.int .u8 z).toArray
  let h4 := put h3 3 (([0, 1, 28, 2, 29, 14, 24, 3, 30, 22, 20, 15, 25, 17, 4, 8, 31, 27, 13, 23, 21, 19, 16, 7, 26, 12, 18, 6, 11, 5, 10, 9] : List Int).map fun z => Value.int .u8 z).toArray
  let h5 := put h4 0 (((List.range 20).map fun i => Value.int .u64 (10 ^ i : Nat))).toArray
  { w0 with heap := h5 }

theorem laid_met (os : Os) (args : Array Value) : laidMetH Tryd.prog laidL ((laidWorld os).forCall (fun _ _ => 0) ⟨#[], args, []⟩).memory :=
  show laidMet Tryd.prog laidL ((laidWorld os).forCall (fun _ _ => 0) ⟨#[], args, []⟩).memory from laidMet_of_run' 8 (by kernel_rfl) (by kernel_rfl)
end Go.Proofs.YtiaafndkbcpbdaaDoor
