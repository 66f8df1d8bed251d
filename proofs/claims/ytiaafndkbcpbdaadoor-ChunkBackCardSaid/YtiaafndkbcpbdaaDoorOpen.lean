/- What came in: bytes. -/
import Derived.Test.YtiaafndkbcpbdaaDoorBase
import Derived.OpenShut
import Derived.ChangeOld
import Derived.WideShapes
namespace Go.Proofs.YtiaafndkbcpbdaaDoor
open Go.ChangeShapes Go.WideShapes Go.RowKit

theorem okWide_spot {P : Program} {W : World} {r : Reach} {base : Nat} {t e : TypeId} {a : Addr} {n c : Nat} (ht : P.underlying t = some (.slice e)) (h : Value.okWide P W r base t (.slice (some a) n c)) : a.spot = none := by
  simp only [Value.okWide, ht, Cell.okWide, Cell.ok] at h
  exact h.2.2.2.1

theorem u8_val {z : Int} (h : (Lit.int .u8 z).wf = true) : Value.int .u8 z = bv (UInt8.ofNat z.toNat) := by
  have h1 : IntKind.u8.min = 0 := rfl
  have h2 : IntKind.u8.max = 255 := rfl
  simp [Lit.wf, h1, h2] at h
  have : ((UInt8.ofNat z.toNat).toNat : Int) = z := by
    rw [UInt8.toNat_ofNat', Nat.mod_eq_of_lt (by omega)]; omega
  rw [bv, this]

theorem open_bs {H : Type} {enc : TypeId × Value → H} {W : World} {r : Reach} {base base' : Nat} {sp : Nat → Bool} {held : Bool} {v : Value} {d : DataW H} {p : List MemPlace} (hok : Value.okWide Tryd.prog W r base 24 v) (h : DataW.Trod enc Tryd.prog W base' sp held 24 v d p) :
    ∃ ao l c, v = .slice ao (List.length l) c ∧ l.length ≤ c ∧ c ≤ maxLen ∧ Bs W ao l ∧ (ao = none → c = 0) := by
  obtain ⟨a0, len0, cap0, rfl⟩ := okWide_slice Tryd.underlying24 hok
  obtain ⟨fuel, hf⟩ := h
  rcases open_ints Tryd.underlying24 Tryd.underlying5 (by kernel_rfl) hf with ⟨hcs, _⟩ | ⟨x, l, c, zs, hcs, _, hl, hm, hz, _, hcell, hwz⟩
  · simp [Value.cells] at hcs
    obtain ⟨rfl, rfl, rfl⟩ := hcs
    exact ⟨none, [], 0, rfl, Nat.le_refl _, Nat.zero_le _, Bs.nil W, fun _ => rfl⟩
  · simp [Value.cells] at hcs
    obtain ⟨rfl, rfl, rfl⟩ := hcs
    have hs := okWide_spot Tryd.underlying24 hok
    have hzl : len0 ≤ zs.length := by rw [hz]; split <;> omega
    refine ⟨some x, (zs.take len0).map fun z => UInt8.ofNat z.toNat, cap0, by simp [Nat.min_eq_left hzl], by simp [Nat.min_eq_left hzl]; exact hl, hm, ⟨nofun, ?_⟩, nofun⟩
    rintro ad ⟨⟩
    refine ⟨hs, fun j b hj => ?_⟩
    obtain ⟨blk, off, spot⟩ := x
    subst hs
    have hlt : j < len0 := by
      have := (List.getElem?_eq_some_iff.1 hj).1
      simp at this; omega
    have hjz : j < zs.length := by omega
    have hc := hcell j hjz
    rw [List.getElem?_map, List.getElem?_take_of_lt hlt, List.getElem?_eq_getElem hjz] at hj
    simp only [Option.map_some, Option.some.injEq] at hj
    rw [add_plain, List.getD_eq_getElem?_getD, List.getElem?_eq_getElem hjz, Option.getD_some, u8_val (hwz _ (List.getElem_mem hjz)), hj] at hc
    exact hc
end Go.Proofs.YtiaafndkbcpbdaaDoor
