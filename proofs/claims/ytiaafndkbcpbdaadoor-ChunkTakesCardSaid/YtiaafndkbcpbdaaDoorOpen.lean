/- What came in: bytes. -/
import Derived.Test.YtiaafndkbcpbdaaDoorBase
import Derived.OpenShut
import Derived.ChangeOld
import Derived.WideShapes
namespace Go.Proofs.YtiaafndkbcpbdaaDoor
open Go.ChangeShapes Go.WideShapes Go.RowKit

theorem okWide_spot {P : Program} {W : World} {r : Go.Reach} {base : Nat} {t e : TypeId} {a : Addr} {n c : Nat} (ht : P.underlying t = some (.slice e)) (h : Value.okWide P W r base t (.slice (some a) n c)) : a.spot = none := by
  simp only [Value.okWide, ht, Cell.okWide, Cell.ok] at h
  exact h.2.2.2.1

theorem u8_val {z : Int} (h : (Lit.int .u8 z).wf = true) : Value.int .u8 z = bv (UInt8.ofNat z.toNat) := by
  have h1 : IntKind.u8.min = 0 := rfl
  have h2 : IntKind.u8.max = 255 := rfl
  simp [Lit.wf, h1, h2] at h
  have : ((UInt8.ofNat z.toNat).toNat : Int) = z := by
    rw [UInt8.toNat_ofNat', Nat.mod_eq_of_lt (by omega)]; omega
  rw [bv, this]

/-- no list weighs more than a machine holds -/
def Rch (ns : List Nat) : Prop := ns.all (· ≤ reachBytes) = true
theorem Rch.head {n : Nat} {ns : List Nat} (h : Rch (n :: ns)) : n ≤ reachBytes := by
  simp [Rch] at h; exact h.1
theorem Rch.tail {n : Nat} {ns : List Nat} (h : Rch (n :: ns)) : Rch ns := by
  simp [Rch] at h ⊢; exact h.2
theorem Rch.left {a b : List Nat} (h : Rch (a ++ b)) : Rch a := by
  unfold Rch at h ⊢; rw [List.all_append, Bool.and_eq_true] at h; exact h.1
theorem Rch.right {a b : List Nat} (h : Rch (a ++ b)) : Rch b := by
  unfold Rch at h ⊢; rw [List.all_append, Bool.and_eq_true] at h; exact h.2
theorem weights_slice {H : Type} {t e : TypeId} (ht : Tryd.prog.underlying t = some (.slice e)) (a b : List (DataW H)) : DataW.weights Tryd.prog t (.slice a b) = (a.length + b.length) * Tryd.prog.bytesOf e :: (DataW.weightsAll Tryd.prog e a ++ DataW.weightsAll Tryd.prog e b) := by
  rw [DataW.weights, ht]
theorem Rch.nth {H : Type} {e : TypeId} : ∀ {l : List (DataW H)} {i : Nat} {d : DataW H}, Rch (DataW.weightsAll Tryd.prog e l) → l[i]? = some d → Rch (DataW.weights Tryd.prog e d)
  | [], _, _, _, hi => by simp at hi
  | x :: l, 0, _, h, hi => by
    cases hi
    rw [DataW.weightsAll] at h
    exact h.left
  | x :: l, i + 1, _, h, hi => by
    rw [DataW.weightsAll] at h
    exact Rch.nth h.right (by simpa using hi)

theorem open_bs_cells {H : Type} {enc : TypeId × Value → H} {W : World} {base' : Nat} {sp : Nat → Bool} {held : Bool} {fuel : Nat} {cs : List Value} {x : DataW H × List MemPlace} (hf : DataW.trod enc Tryd.prog W base' sp held fuel 24 cs = some x) (hz : Rch (DataW.weights Tryd.prog 24 x.1)) :
    ∃ ao l c, cs = [.slice ao (List.length l) c] ∧ l.length ≤ c ∧ c ≤ maxLen ∧ Bs W ao l ∧ (ao = none → c = 0) ∧ l.length ≤ reachBytes := by
  rcases open_ints Tryd.underlying24 Tryd.underlying5 (by kernel_rfl) hf with ⟨hcs, _⟩ | ⟨a, len0, cap0, zs, hcs, _, hl, hm, hzs, hx, hcell, hwz⟩
  · exact ⟨none, [], 0, hcs, Nat.le_refl _, Nat.zero_le _, Bs.nil W, fun _ => rfl, Nat.zero_le _⟩
  · have hzl : len0 ≤ zs.length := by rw [hzs]; split <;> omega
    have hlen : len0 ≤ reachBytes := by
      rw [hx] at hz
      dsimp only at hz
      rw [weights_slice Tryd.underlying24] at hz
      have h1 := hz.head
      have hb : Tryd.prog.bytesOf 5 = 1 := by kernel_rfl
      rw [hb] at h1
      simp [lits, Nat.min_eq_left hzl] at h1
      omega
    refine ⟨some a, (zs.take len0).map fun z => UInt8.ofNat z.toNat, cap0, by simp [Nat.min_eq_left hzl]; exact hcs, by simp [Nat.min_eq_left hzl]; exact hl, hm, ⟨nofun, ?_⟩, nofun, by simp [Nat.min_eq_left hzl]; exact hlen⟩
    rintro ad ⟨⟩
    intro j b hj
    have hlt : j < len0 := by
      have := (List.getElem?_eq_some_iff.1 hj).1
      simp at this; omega
    have hjz : j < zs.length := by omega
    have hc := hcell j hjz
    rw [List.getElem?_map, List.getElem?_take_of_lt hlt, List.getElem?_eq_getElem hjz] at hj
    simp only [Option.map_some, Option.some.injEq] at hj
    rw [List.getD_eq_getElem?_getD, List.getElem?_eq_getElem hjz, Option.getD_some, u8_val (hwz _ (List.getElem_mem hjz)), hj] at hc
    exact hc

theorem open_bs {H : Type} {enc : TypeId × Value → H} {W : World} {r : Go.Reach} {base base' : Nat} {sp : Nat → Bool} {held : Bool} {v : Value} {d : DataW H} {p : List MemPlace} (hok : Value.okWide Tryd.prog W r base 24 v) (h : DataW.Trod enc Tryd.prog W base' sp held 24 v d p) (hz : Rch (DataW.weights Tryd.prog 24 d)) :
    ∃ ao l c, v = .slice ao (List.length l) c ∧ l.length ≤ c ∧ c ≤ maxLen ∧ Bs W ao l ∧ (ao = none → c = 0) ∧ l.length ≤ reachBytes := by
  obtain ⟨a0, len0, cap0, rfl⟩ := okWide_slice Tryd.underlying24 hok
  obtain ⟨fuel, hf⟩ := h
  obtain ⟨ao, l, c, hcs, rest⟩ := open_bs_cells hf hz
  simp [Value.cells] at hcs
  obtain ⟨rfl, rfl, rfl⟩ := hcs
  exact ⟨a0, l, cap0, rfl, rest⟩

/-- slices of bytes, side by side: what each reads -/
def Bss (w : World) (ao : Option Addr) (ls : List (Option Addr × List UInt8 × Nat)) : Prop :=
  (ao = none → ls = []) ∧ ∀ ad, ao = some ad → ∀ j x, ls[j]? = some x → w.cell? (ad.add j) = some (.slice x.1 x.2.1.length x.2.2) ∧ Bs w x.1 x.2.1 ∧ x.2.1.length ≤ x.2.2 ∧ (x.1 = none → x.2.2 = 0) ∧ x.2.1.length ≤ reachBytes

theorem list_of {α : Type} (Q : Nat → α → Prop) : ∀ n, (∀ i, i < n → ∃ x, Q i x) → ∃ l : List α, l.length = n ∧ ∀ j x, l[j]? = some x → Q j x
  | 0, _ => ⟨[], rfl, by simp⟩
  | n + 1, h => by
    obtain ⟨l, hl, hp⟩ := list_of Q n (fun i hi => h i (by omega))
    obtain ⟨x, hx⟩ := h n (by omega)
    refine ⟨l ++ [x], by simp [hl], fun j y hj => ?_⟩
    by_cases hlt : j < n
    · rw [List.getElem?_append_left (by omega)] at hj; exact hp j y hj
    · rw [List.getElem?_append_right (by omega)] at hj
      have : j - l.length = 0 := by
        have := (List.getElem?_eq_some_iff.1 hj).1
        simp at this; omega
      rw [this] at hj
      cases hj
      rw [show j = n from by omega]; exact hx

theorem open_bss {H : Type} {enc : TypeId × Value → H} {W : World} {r : Go.Reach} {base base' : Nat} {sp : Nat → Bool} {held : Bool} {v : Value} {d : DataW H} {p : List MemPlace} (hok : Value.okWide Tryd.prog W r base 22 v) (h : DataW.Trod enc Tryd.prog W base' sp held 22 v d p) (hz : Rch (DataW.weights Tryd.prog 22 d)) :
    ∃ ao ls c, v = .slice ao (List.length ls) c ∧ ls.length ≤ c ∧ c ≤ maxLen ∧ Bss W ao ls ∧ (ao = none → c = 0) ∧ ls.length ≤ reachBytes := by
  obtain ⟨a0, len0, cap0, rfl⟩ := okWide_slice Tryd.underlying22 hok
  obtain ⟨fuel, hf⟩ := h
  rcases DataW.trod_slice Tryd.underlying22 hf with ⟨hcs, _⟩ | ⟨a, len, cap, elems, rest, n, _, hcs, hx, hb, hl, hm, hlen, hel, _, _⟩
  · simp [Value.cells] at hcs
    obtain ⟨rfl, rfl, rfl⟩ := hcs
    exact ⟨none, [], 0, rfl, Nat.le_refl _, Nat.zero_le _, ⟨fun _ => rfl, nofun⟩, fun _ => rfl, Nat.zero_le _⟩
  · simp [Value.cells] at hcs
    obtain ⟨rfl, rfl, rfl⟩ := hcs
    have hd : d = .slice (elems.map (·.1)) (rest.map (·.1)) := congrArg Prod.fst hx
    subst hd
    rw [weights_slice Tryd.underlying22] at hz
    have hc1 : Tryd.prog.cellsOf 24 = 1 := by kernel_rfl
    rw [hc1] at hel
    have each : ∀ i, i < len0 → ∃ x : Option Addr × List UInt8 × Nat, W.cell? (a.add i) = some (.slice x.1 x.2.1.length x.2.2) ∧ Bs W x.1 x.2.1 ∧ x.2.1.length ≤ x.2.2 ∧ (x.1 = none → x.2.2 = 0) ∧ x.2.1.length ≤ reachBytes := by
      intro i hi
      have h1 := hel i hi
      rw [List.getElem?_eq_getElem (by omega), Nat.mul_one, Option.bind_eq_some_iff] at h1
      obtain ⟨cs', hcs', hy⟩ := h1
      obtain ⟨ao, l, c, rfl, h2, h3, h4, h5, h6⟩ := open_bs_cells hy (Rch.nth (i := i) hz.tail.left (by rw [List.getElem?_map, List.getElem?_eq_getElem (by omega)]; rfl))
      exact ⟨(ao, l, c), cell_of_cells?_one hcs', h4, h2, h5, h6⟩
    have hlr : len0 ≤ reachBytes := by
      have h1 := hz.head
      have hb : Tryd.prog.bytesOf 24 = 24 := by kernel_rfl
      rw [hb] at h1
      simp only [List.length_map, hlen] at h1
      omega
    obtain ⟨ls, hls, hp⟩ := list_of _ len0 each
    subst hls
    refine ⟨some a, ls, cap0, rfl, hl, hm, ⟨nofun, ?_⟩, nofun, hlr⟩
    rintro ad ⟨⟩
    exact hp
end Go.Proofs.YtiaafndkbcpbdaaDoor
