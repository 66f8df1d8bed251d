/- Rows that a call owns; package chunk, walked: Take, Put, New, Done, Whole. No condition of its own. -/
import Derived.WalkKit
import Derived.Lib.FrozenHead2
import Derived.Lib.ConvBytes
import Derived.Test.YteneioapchhehaaDoorProg
import Derived.KernelRfl
import Derived.Lib.Hide
import Derived.Deep.QuietTactic
import Derived.BigQuiet
import Derived.WalkLawsBesides
import Derived.WalkSpells
import Derived.Deep.DeepCutAuto
import Derived.Test.YteneioapchhehaaDoorShelf
import Derived.Lib.SlBytesConst
import Derived.RangeFuncNested
import Derived.RangeFuncBound
import Derived.RangeFuncCalls
import Derived.RangeFuncLeaves
import Derived.Shelf.Abstract
import Derived.Shelf.RegionOpen
import Derived.OwnWalkIn
import Derived.TacticsInMore
import Derived.LoopNIn
import Derived.LoopIn
/- A row that the call owns, of which nothing is frozen that may still be written: what an append does to it. Over any program. -/
namespace Go.Proofs.YteneioapchhehaaDoor
open Go.RowKit

/-- The slice value v, of n elements of size cells each, owns the cells xs; behind them, in its row, nothing is frozen. -/
def RowO (w : World) (base : Nat) (e : TypeId) (size : Nat) (v : Value) (n : Nat) (xs : List Value) : Prop :=
  xs.length = n * size ∧
  ((v = .slice none 0 0 ∧ n = 0) ∨
   ∃ g cap cur fz, v = .slice (some ⟨g, 0, none⟩) n cap ∧ base ≤ g ∧ w.heap[g]? = some (.cells cur e fz) ∧ (∀ j, n * size ≤ j → j < cap * size → ¬ (fz.1 ≤ j ∧ j < fz.2)) ∧ n ≤ cap ∧ cap ≤ maxLen ∧ cur.size = cap * size ∧ cur.toList.take (n * size) = xs)

section
variable {w : World} {base : Nat} {e : TypeId} {size : Nat} {v : Value} {n : Nat} {xs : List Value}

theorem RowO.of (h : w.ownsRow base e size v n xs) : RowO w base e size v n xs := by
  refine ⟨h.1, ?_⟩
  rcases h.2 with hn | ⟨g, cap, cur, hv, hb, hg, rest⟩
  · exact .inl hn
  · exact .inr ⟨g, cap, cur, (0, 0), hv, hb, hg, fun j _ _ h => by have := h.2; simp at this, rest⟩
theorem RowO.nil (w : World) (base : Nat) (e : TypeId) (size : Nat) : RowO w base e size (.slice none 0 0) 0 [] := ⟨by simp, .inl ⟨rfl, rfl⟩⟩
theorem RowO.lt (h : RowO w base e size v n xs) : ∀ k, v.ownBlock = some k → base ≤ k ∧ k < w.heap.size := by
  intro k hk
  rcases h.2 with ⟨rfl, _⟩ | ⟨g, cap, cur, fz, rfl, hb, hg, _⟩
  · cases hk
  · cases hk
    exact ⟨hb, lt_of_block hg⟩
theorem RowO.keep {w' : World} (h : RowO w base e size v n xs) (hb : ∀ k, v.ownBlock = some k → w'.heap[k]? = w.heap[k]?) : RowO w' base e size v n xs := by
  refine ⟨h.1, ?_⟩
  rcases h.2 with hn | ⟨g, cap, cur, fz, hv, hbg, hg, rest⟩
  · exact .inl hn
  · exact .inr ⟨g, cap, cur, fz, hv, hbg, by rw [hb g (by rw [hv]; rfl)]; exact hg, rest⟩
theorem RowO.kept {w' : World} {row : Option Nat} (h : RowO w base e size v n xs) (hg : w.grownBy w' row) (hne : v.ownBlock = none ∨ v.ownBlock ≠ row) : RowO w' base e size v n xs :=
  h.keep fun k hk => hg.block k (h.lt k hk).2 (by rintro rfl; rcases hne with h | h; rw [hk] at h; cases h; exact h hk)
theorem RowO.alloc (h : RowO w base e size v n xs) (o : Obj) : RowO (w.alloc o) base e size v n xs := h.kept (World.grownBy_alloc w o none) (by cases hv : v.ownBlock <;> simp)
theorem RowO.cells (h : RowO w base e size v n xs) {g : Nat} (hg : v.ownBlock = some g) : ∀ j u, xs[j]? = some u → w.cell? ((⟨g, 0, none⟩ : Addr).add j) = some u := by
  intro j u hj
  rcases h.2 with ⟨rfl, _⟩ | ⟨g', cap, cur, fz, rfl, hb, hh, hf, hn, hc, hs, ht⟩
  · cases hg
  · cases hg
    rw [Addr.add_lit]
    have hjl : j < xs.length := (List.getElem?_eq_some_iff.1 hj).1
    have h2 : cur[j]? = some u := by
      rw [← ht, List.getElem?_take] at hj
      split at hj
      · simpa using hj
      · cases hj
    simp [World.cell?, hh, h2]
theorem RowO.mono {B' : Nat} (h : RowO w base e size v n xs) (hB : B' ≤ base) : RowO w B' e size v n xs := by
  refine ⟨h.1, ?_⟩
  rcases h.2 with hn | ⟨g, cap, cur, fz, hv, hg, r⟩
  · exact .inl hn
  · exact .inr ⟨g, cap, cur, fz, hv, Nat.le_trans hB hg, r⟩
end

theorem run_storeCells_O (P : Program) (g o : Nat) (t : TypeId) (fz : Nat × Nat) : ∀ (vs : List Value) (i : Nat) (cur : Array Value) (w : World), w.heap[g]? = some (.cells cur t fz) →
    (∀ j, o + i ≤ j → j < o + i + vs.length → ¬ (fz.1 ≤ j ∧ j < fz.2)) → o + i + vs.length ≤ cur.size → (∀ v ∈ vs, v.oneCell' = true) →
    (storeCells ⟨g, o, none⟩ vs i).run P w = .ok () (w.setRow g (cur.toList.take (o + i) ++ vs ++ cur.toList.drop (o + i + vs.length)).toArray)
  | [], i, cur, w, hg, _, _, _ => by
    simp only [storeCells, List.append_nil, List.length_nil, Nat.add_zero, List.take_append_drop, Array.toArray_toList]
    rw [setRow_self w g cur t fz hg]
    rfl
  | v :: rest, i, cur, w, hg, hfz, hl, h1 => by
    have hi : o + i < cur.size := by simp at hl; omega
    have hadd : (⟨g, o, none⟩ : Addr).add i = ⟨g, o + i, none⟩ := by unfold Addr.add; split <;> simp_all
    have hcell : w.cell? ⟨g, o + i, none⟩ = some cur[o + i] := by simp [World.cell?, hg, hi]
    have hfro : w.frozen? ⟨g, o + i, none⟩ = false := by
      have := hfz (o + i) (Nat.le_refl _) (by simp)
      obtain ⟨lo, hi'⟩ := fz
      simp only [World.frozen?, hg, Bool.and_eq_false_iff, decide_eq_false_iff_not]
      simp only at this
      omega
    have hst : (store ((⟨g, o, none⟩ : Addr).add i) v).run P w = .ok () (w.setRow g (cur.setIfInBounds (o + i) v)) := by
      rw [hadd, run_store P w _ v _ (h1 v (by simp)), hcell]
      simp [hfro, setCell_eq_setRow w g (o + i) cur t fz v hg]
    have ih := run_storeCells_O P g o t fz rest (i + 1) (cur.setIfInBounds (o + i) v) (w.setRow g (cur.setIfInBounds (o + i) v)) (setRow_heap w g cur _ t _ hg)
      (fun j h1 h2 => hfz j (by omega) (by simp; omega)) (by simp at hl ⊢; omega) (fun x hx => h1 x (by simp [hx]))
    simp only [storeCells, Sem.run_bind, hst, Result.andThen_ok, ih, setRow_setRow]
    congr 3
    have e := list_seg_step cur.toList (o + i) v rest (by simp at hl ⊢; omega)
    simpa [Array.toList_setIfInBounds, Nat.add_assoc] using e

section
variable {P : Program} (w : World)
theorem run_appendO (base : Nat) (t ty e : TypeId) (i : TypeInfo) (z : Value) (size bytes : Nat) (ht : P.underlying t = some (.slice e)) (hi : P.info? e = some i) (hz : i.zero = some z)
    (hsize : i.size = size) (hby : i.bytes = bytes) (hzs : z.cells.size = size) (hsz : 0 < size)
    (v : Value) (n : Nat) (xs : List Value) (hown : RowO w base e size v n xs)
    (a : Addr) (m c : Nat) (news : List Value) (hl : news.length = m * size) (hnews : ∀ j u, news[j]? = some u → w.cell? (a.add j) = some u) (h1 : ∀ u ∈ news, u.oneCell' = true)
    (h63 : n + m ≤ maxLen) (hbytes : (n + m) * bytes ≤ 140737488355328) (hbase : base ≤ w.heap.size) :
    ∃ v' w', (Builtin.append_ #[t, t] ty #[v, .slice (some a) m c]).run P w = .ok v' w' ∧ RowO w' base e size v' (n + m) (xs ++ news) ∧ w.grownBy w' v.ownBlock ∧
      (v' = .slice none 0 0 ↔ v = .slice none 0 0 ∧ m = 0) ∧ (∀ k, v'.ownBlock = some k → v.ownBlock = some k ∨ w.heap.size ≤ k) := by
  rcases hown.2 with ⟨rfl, rfl⟩ | ⟨g, cap, cur, fz, rfl, hbg, hg, hfz, hnc, hcm, hcs, htake⟩
  · obtain ⟨v', w', r1, r2, r3, r4⟩ := run_append_own (P := P) w w.heap.size t ty e i z size bytes ht hi hz hsize hby hzs hsz (.slice none 0 0) 0 xs ⟨hown.1, .inl ⟨rfl, rfl⟩⟩ a m c news hl hnews h1 h63 hbytes (Nat.le_refl _)
    exact ⟨v', w', r1, (RowO.of r2).mono hbase, r3, r4, fun k hk => .inr ((RowO.of r2).lt k hk).1⟩
  · subst hsize
    subst hby
    have hsmall : n + m ≤ 9223372036854775807 := by simp only [maxLen] at h63; omega
    have hlen : (xs ++ news).length = (n + m) * i.size := by rw [List.length_append, hown.1, hl, Nat.add_mul]
    by_cases hroom : n + m ≤ cap
    · have hmul : (n + m) * i.size ≤ cap * i.size := Nat.mul_le_mul_right _ hroom
      have hfit : n * i.size + news.length ≤ cur.size := by rw [hl, hcs, ← Nat.add_mul]; exact hmul
      have hf := run_firstCells_some (P := P) w i.size m a m c news hl hnews
      have hst := run_storeCells_O P g (n * i.size) e fz news 0 cur w hg (fun j h1 h2 => hfz j (by simpa using h1) (by rw [hcs] at hfit; omega)) (by simpa using hfit) h1
      simp only [Nat.add_zero] at hst
      have hr : (Builtin.append_ #[t, t] ty #[.slice (some ⟨g, 0, none⟩) n cap, .slice (some a) m c]).run P w = .ok (.slice (some ⟨g, 0, none⟩) (n + m) cap) (w.setRow g (cur.toList.take (n * i.size) ++ news ++ cur.toList.drop (n * i.size + news.length)).toArray) := by
        simp [Builtin.append_, run_underlying ht, sizeOf, typeInfo, hi, Builtin.lenOf, hroom, hf, Addr.add_lit, hst]
      refine ⟨_, _, hr, ⟨hlen, .inr ⟨g, cap, _, fz, rfl, hbg, setRow_heap w g cur _ e _ hg, fun j h1 h2 => hfz j (Nat.le_trans (Nat.mul_le_mul_right _ (Nat.le_add_right n m)) h1) h2, hroom, hcm, ?_, ?_⟩⟩, ⟨rfl, rfl, rfl, by simp, fun k _ hk => setRow_other w g k _ (fun e => hk (by simp [Value.ownBlock, e]))⟩, by simp, fun k hk => .inl hk⟩
      · simp only [List.size_toArray, List.length_append, List.length_take, List.length_drop, Array.length_toList]
        omega
      · rw [htake, ← hlen]
        exact List.take_left
    · have holds : ∀ j u, xs[j]? = some u → w.cell? ((⟨g, 0, none⟩ : Addr).add j) = some u := hown.cells (g := g) rfl
      have hr := run_append_grow (P := P) w t ty e i z ht hi hz ⟨g, 0, none⟩ n cap xs hown.1 holds a m c news hl hnews (by omega) (by omega) (growslice_fits (by omega) hbytes)
      have hge := grownCap_ge w (n + m) cap e
      have hcm2 : grownCap w (n + m) cap e ≤ maxLen := grownCap_le_maxLen w (n + m) cap e h63
      refine ⟨_, _, hr, ⟨hlen, .inr ⟨w.heap.size, _, _, (0, 0), rfl, hbase, heap_alloc_new w.drew _, (fun j _ _ h => by have := h.2; simp at this), hge, hcm2, ?_, ?_⟩⟩, ⟨rfl, rfl, rfl, by simp, fun k hk _ => _root_.Go.heap_alloc_old w.drew _ hk⟩, by simp, fun k hk => .inr (by cases hk; exact Nat.le_refl _)⟩
      · simp only [Array.size_append, List.size_toArray, size_zeroCells, hzs, hown.1, hl, ← Nat.add_mul]
        congr 1
        omega
      · simp only [Array.toList_append, List.append_assoc]
        rw [← List.append_assoc, ← hlen]
        exact List.take_left

theorem run_appendO_none (base : Nat) (t ty e : TypeId) (i : TypeInfo) (size : Nat) (ht : P.underlying t = some (.slice e)) (hi : P.info? e = some i)
    (v : Value) (n : Nat) (xs : List Value) (hown : RowO w base e size v n xs) : (Builtin.append_ #[t, t] ty #[v, .slice none 0 0]).run P w = .ok v w := by
  rcases hown.2 with ⟨rfl, rfl⟩ | ⟨g, cap, cur, fz, rfl, _, _, _, hnc, _⟩
  · simp [Builtin.append_, run_underlying ht, sizeOf, typeInfo, hi, Builtin.lenOf, Builtin.firstCells]
  · simp [Builtin.append_, run_underlying ht, sizeOf, typeInfo, hi, Builtin.lenOf, Builtin.firstCells, hnc, storeCells]

theorem run_append_stringO (base : Nat) (t u ty e : TypeId) (i : TypeInfo) (ht : P.underlying t = some (.slice e)) (hu : P.underlying u = some .string) (hi : P.info? e = some i) (hz : i.zero = some (.int .u8 0))
    (hsize : i.size = 1) (hby : i.bytes = 1)
    (v : Value) (n : Nat) (xs : List Value) (hown : RowO w base e 1 v n xs) (s : ByteArray)
    (h63 : n + s.size ≤ maxLen) (hbytes : n + s.size ≤ 140737488355328) (hbase : base ≤ w.heap.size) :
    ∃ v' w', (Builtin.append_ #[t, u] ty #[v, .string s]).run P w = .ok v' w' ∧ RowO w' base e 1 v' (n + s.size) (xs ++ Lib.strCells s) ∧ w.grownBy w' v.ownBlock ∧
      (v' = .slice none 0 0 ↔ v = .slice none 0 0 ∧ s.size = 0) ∧ (∀ k, v'.ownBlock = some k → v.ownBlock = some k ∨ w.heap.size ≤ k) := by
  rcases hown.2 with ⟨rfl, rfl⟩ | ⟨g, cap, cur, fz, rfl, hbg, hg, hfz, hnc, hcm, hcs, htake⟩
  · obtain ⟨v', w', h1, h2, h3, h4⟩ := Lib.run_append_own_string (P := P) w w.heap.size t u ty e i ht hu hi hz hsize hby (.slice none 0 0) 0 xs ⟨hown.1, .inl ⟨rfl, rfl⟩⟩ s h63 hbytes (Nat.le_refl _)
    exact ⟨v', w', h1, (RowO.of h2).mono hbase, h3, h4, fun k hk => .inr ((RowO.of h2).lt k hk).1⟩
  · have hsmall : n + s.size ≤ 9223372036854775807 := by simp only [maxLen] at h63; omega
    have hxl : xs.length = n := by simpa using hown.1
    have hlen : (xs ++ Lib.strCells s).length = (n + s.size) * 1 := by rw [List.length_append, hxl, Lib.strCells_length, Nat.mul_one]
    by_cases hroom : n + s.size ≤ cap
    · have hcs' : cur.size = cap := by simpa using hcs
      have hst := run_storeCells_O P g (n * 1) e fz (Lib.strCells s) 0 cur w hg (fun j h1 h2 => hfz j (by omega) (by rw [Lib.strCells_length] at h2; omega)) (by rw [Lib.strCells_length]; omega) (Lib.strCells_oneCell s)
      have hf := Lib.run_firstCells_string (P := P) (w := w) 1 s
      simp only [Nat.add_zero, Nat.mul_one] at hst
      have hr : (Builtin.append_ #[t, u] ty #[.slice (some ⟨g, 0, none⟩) n cap, .string s]).run P w = .ok (.slice (some ⟨g, 0, none⟩) (n + s.size) cap) (w.setRow g (cur.toList.take n ++ Lib.strCells s ++ cur.toList.drop (n + (Lib.strCells s).length)).toArray) := by
        simp [Builtin.append_, run_underlying ht, run_underlying hu, sizeOf, typeInfo, hi, Builtin.lenOf, hroom, hf, hsize, Addr.add_lit, hst]
      refine ⟨_, _, hr, ⟨hlen, .inr ⟨g, cap, _, fz, rfl, hbg, setRow_heap w g cur _ e _ hg, fun j h1 h2 => hfz j (by omega) h2, hroom, hcm, ?_, ?_⟩⟩, ⟨rfl, rfl, rfl, by simp, fun k _ hk => setRow_other w g k _ (fun e => hk (by simp [Value.ownBlock, e]))⟩, by simp, fun k hk => .inl hk⟩
      · simp only [List.size_toArray, List.length_append, List.length_take, List.length_drop, Array.length_toList, Lib.strCells_length]
        omega
      · have ht' : cur.toList.take n = xs := by simpa using htake
        rw [ht', ← hlen]
        exact List.take_left
    · have holds : ∀ j u, xs[j]? = some u → w.cell? ((⟨g, 0, none⟩ : Addr).add j) = some u := hown.cells (g := g) rfl
      have hr := Lib.run_append_grow_string (P := P) w t u ty e i (.int .u8 0) ht hu hi hz ⟨g, 0, none⟩ n cap xs (by rw [hsize]; simpa using hxl) holds s (by omega) (by omega) (by rw [hby]; exact growslice_fits (by omega) (by omega))
      have hge := grownCap_ge w (n + s.size) cap e
      have hcm2 : grownCap w (n + s.size) cap e ≤ maxLen := grownCap_le_maxLen w (n + s.size) cap e h63
      refine ⟨_, _, hr, ⟨hlen, .inr ⟨w.heap.size, _, _, (0, 0), rfl, hbase, heap_alloc_new w.drew _, (fun j _ _ h => by have := h.2; simp at this), hge, hcm2, ?_, ?_⟩⟩, ⟨rfl, rfl, rfl, by simp, fun k hk _ => _root_.Go.heap_alloc_old w.drew _ hk⟩, by simp, fun k hk => .inr (by cases hk; exact Nat.le_refl _)⟩
      · have hz1 : (Value.int IntKind.u8 0).cells.size = 1 := rfl
        simp only [Array.size_append, List.size_toArray, size_zeroCells, hz1, hxl, Lib.strCells_length]
        omega
      · simp only [Array.toList_append, List.append_assoc]
        rw [← List.append_assoc, ← hlen]
        exact List.take_left

/-- '[]byte(s)' is a row that the call owns -/
theorem RowO.bytes (e : TypeId) (s : ByteArray) (hm : s.size ≤ maxLen) : RowO (Lib.bytesWorld w e s) w.heap.size e 1 (.slice (some ⟨w.heap.size, 0, none⟩) s.size (grownCap w s.size 0 e)) s.size (Lib.strCells s) := by
  have hge := grownCap_ge w s.size 0 e
  refine ⟨by rw [Lib.strCells_length]; simp, .inr ⟨w.heap.size, grownCap w s.size 0 e, Lib.bytesCells w e s, _, rfl, Nat.le_refl _, Lib.bytesWorld_at_new w e s, ?_, hge, grownCap_le_maxLen w s.size 0 e hm, ?_, ?_⟩⟩
  · intro j _ hj h
    have hsz : (Lib.bytesCells w e s).size = grownCap w s.size 0 e := by
      have h0 : s.data.size = s.size := rfl
      simp only [Lib.bytesCells, Array.size_append, Array.size_map, Array.size_replicate, h0]; omega
    have := h.1
    simp only [hsz] at this
    omega
  · have h0 : s.data.size = s.size := rfl
    simp only [Lib.bytesCells, Array.size_append, Array.size_map, Array.size_replicate, h0]; omega
  · have h0 : s.data.size = s.size := rfl
    simp only [Lib.bytesCells, Array.toList_append, Array.toList_map, Nat.mul_one, Lib.strCells]
    rw [List.take_append_of_le_length (by simp), List.take_of_length_le (by simp)]
end
end Go.Proofs.YteneioapchhehaaDoor

/- What all the proofs of this family share: how the world may have changed (Ch), blocks, bytes that a slice reads as (Bs), bytes that the call owns (Ow). -/
namespace Go.Proofs.YteneioapchhehaaDoor
open Go.RowKit

theorem ret1 {a b : Value} (h : a = b) : Ending.returned a = .returned b := by rw [h]
theorem ret2 {a b c d : Value} (h1 : a = c) (h2 : b = d) : Ending.returned (.tuple #[a, b]) = .returned (.tuple #[c, d]) := by rw [h1, h2]
theorem ret3 {a b x c d y : Value} (h1 : a = c) (h2 : b = d) (h3 : x = y) : Ending.returned (.tuple #[a, b, x]) = .returned (.tuple #[c, d, y]) := by rw [h1, h2, h3]
theorem iEq {k : IntKind} {a b : Int} (h : a = b) : Value.int k a = .int k b := by rw [h]
theorem bEq {a b : Bool} (h : a = b) : Value.bool a = .bool b := by rw [h]

/-- changes only in blocks of S, and new blocks -/
structure Ch (S : Nat → Prop) (w w' : World) : Prop where
  os : w'.os = w.os
  tape : w'.tape = w.tape
  output : w'.output = w.output
  size : w.heap.size ≤ w'.heap.size
  block : ∀ k, k < w.heap.size → ¬ S k → w'.heap[k]? = w.heap[k]?

theorem Ch.refl (S : Nat → Prop) (w : World) : Ch S w w := ⟨rfl, rfl, rfl, Nat.le_refl _, fun _ _ _ => rfl⟩
theorem Ch.trans {S : Nat → Prop} {a b c : World} (h : Ch S a b) (k : Ch S b c) : Ch S a c :=
  ⟨k.os.trans h.os, k.tape.trans h.tape, k.output.trans h.output, Nat.le_trans h.size k.size, fun i hi hs => (k.block i (Nat.lt_of_lt_of_le hi h.size) hs).trans (h.block i hi hs)⟩
theorem Ch.mono {S T : Nat → Prop} {a b : World} (h : Ch S a b) (hST : ∀ k, S k → T k) : Ch T a b := ⟨h.os, h.tape, h.output, h.size, fun i hi hs => h.block i hi (fun x => hs (hST _ x))⟩
theorem Ch.drew {S : Nat → Prop} {a w : World} (h : Ch S a w) : Ch S a w.drew := ⟨h.os, h.tape, h.output, h.size, h.block⟩
theorem Ch.set {S : Nat → Prop} {a w : World} (h : Ch S a w) {p : Addr} (hp : S p.block ∨ a.heap.size ≤ p.block) (u : Value) : Ch S a (w.setCell p u) :=
  ⟨h.os, h.tape, h.output, by simpa [World.setCell] using h.size, fun k hk hs => by
    rw [Below.heap_setCell _ _ _ _ (by rintro rfl; rcases hp with hp | hp; exact hs hp; omega)]; exact h.block k hk hs⟩
theorem Ch.alloc {S : Nat → Prop} {a w : World} (h : Ch S a w) (o : Obj) : Ch S a (w.alloc o) :=
  ⟨h.os, h.tape, h.output, by have := h.size; simp; omega, fun k hk hs => by rw [Below.heap_alloc _ _ _ (by have := h.size; omega)]; exact h.block k hk hs⟩

theorem blk_cell {w : World} {g : Nat} {cs : Array Value} {t : TypeId} (h : w.heap[g]? = some (.cells cs t (0, 0))) (i : Nat) : w.cell? ⟨g, i, none⟩ = cs[i]? := by simp [World.cell?, h]
theorem blk_free {w : World} {g : Nat} {cs : Array Value} {t : TypeId} (h : w.heap[g]? = some (.cells cs t (0, 0))) (i : Nat) : w.frozen? ⟨g, i, none⟩ = false := by simp [World.frozen?, h]
theorem blk_set {w : World} {g : Nat} {cs : Array Value} {t : TypeId} (h : w.heap[g]? = some (.cells cs t (0, 0))) (i : Nat) (u : Value) : (w.setCell ⟨g, i, none⟩ u).heap[g]? = some (.cells (cs.setIfInBounds i u) t (0, 0)) := by
  simp [World.setCell, Array.getElem?_modify, h]

theorem Ch.below {S : Nat → Prop} {a w w' : World} (h : Ch S a w) (hb : Below w.heap.size w w') : Ch S a w' :=
  ⟨hb.os.trans h.os, hb.tape.trans h.tape, hb.output.trans h.output, Nat.le_trans h.size hb.size, fun k hk hs => (hb.block k (Nat.lt_of_lt_of_le hk h.size)).trans (h.block k hk hs)⟩
theorem ch_set1 (w : World) (g a : Nat) (u : Value) : Ch (· = g) w (w.setCell ⟨g, a, none⟩ u) := Ch.set (S := (· = g)) (Ch.refl _ _) (.inl rfl) _
theorem ch_set2 (w : World) (g a b : Nat) (u v : Value) : Ch (· = g) w ((w.setCell ⟨g, a, none⟩ u).setCell ⟨g, b, none⟩ v) := Ch.set (S := (· = g)) (ch_set1 w g a u) (.inl rfl) _

/-- a global error variable: it holds some error -/
def ErrVar (g : Nat) (w : World) : Prop := ∃ ev, w.cell? ⟨g, 0, none⟩ = some ev ∧ (ev = .nilIface ∨ ∃ te pe, ev = .iface te pe)


/-- a byte as a value -/
abbrev bv (b : UInt8) : Value := .int .u8 (b.toNat : Int)

/-- the slice at an address, of length l.length, reads as these bytes -/
def Bs (w : World) (ao : Option Addr) (l : List UInt8) : Prop :=
  (ao = none → l = []) ∧ ∀ ad, ao = some ad → ∀ j (b : UInt8), l[j]? = some b → w.cell? (ad.add j) = some (bv b)

theorem Bs.nil (w : World) : Bs w none [] := ⟨fun _ => rfl, nofun⟩
theorem Bs.empty (w : World) (ao : Option Addr) : Bs w ao [] := ⟨fun _ => rfl, fun ad _ j b h => by simp at h⟩
theorem Bs.of_plain {w : World} {b off : Nat} {l : List UInt8} (h : ∀ j (x : UInt8), l[j]? = some x → w.cell? ⟨b, off + j, none⟩ = some (bv x)) : Bs w (some ⟨b, off, none⟩) l :=
  ⟨nofun, fun ad had => by cases had; intro j x hx; rw [Addr.add_lit]; exact h j x hx⟩
theorem Bs.plain {w : World} {b off : Nat} {l : List UInt8} (h : Bs w (some ⟨b, off, none⟩) l) : ∀ j (x : UInt8), l[j]? = some x → w.cell? ⟨b, off + j, none⟩ = some (bv x) := by
  intro j x hx
  have := h.2 _ rfl j x hx
  rw [Addr.add_lit] at this
  exact this
theorem Bs.spot {w : World} {ad : Addr} {l : List UInt8} (h : Bs w (some ad) l) (hl : 0 < l.length) : ad.spot = none := by
  obtain ⟨b, off, sp⟩ := ad
  have := World.cell?_spot (h.2 _ rfl 0 _ (List.getElem?_eq_getElem hl))
  simpa [Addr.add] using this
theorem Bs.cell {w : World} {b off : Nat} {l : List UInt8} (h : Bs w (some ⟨b, off, none⟩) l) (j : Nat) (hj : j < l.length) : w.cell? ⟨b, off + j, none⟩ = some (bv l[j]) :=
  h.plain j _ (List.getElem?_eq_getElem hj)
theorem Bs.some_of {w : World} {ao : Option Addr} {l : List UInt8} (h : Bs w ao l) (hl : 0 < l.length) : ∃ b off, ao = some ⟨b, off, none⟩ := by
  cases ao with
  | none => have := h.1 rfl; subst this; simp at hl
  | some ad => have := h.spot hl; obtain ⟨b, off, sp⟩ := ad; dsimp only at this; subst this; exact ⟨b, off, rfl⟩
theorem Bs.block_lt {w : World} {b off : Nat} {l : List UInt8} (h : Bs w (some ⟨b, off, none⟩) l) (hl : 0 < l.length) : b < w.heap.size :=
  World.block_lt_of_cell? w ⟨b, off + 0, none⟩ (h.cell 0 hl)
/-- what is read stays, where its block does -/
theorem Bs.block {w w' : World} {ao : Option Addr} {l : List UInt8} (h : Bs w ao l) (hb : ∀ b off, ao = some ⟨b, off, none⟩ → 0 < l.length → w'.heap[b]? = w.heap[b]?) : Bs w' ao l := by
  by_cases hl : 0 < l.length
  · obtain ⟨b, off, rfl⟩ := h.some_of hl
    refine Bs.of_plain fun j x hj => ?_
    rw [← h.plain j x hj]
    exact World.cell?_of_block (w := w) (hb b off rfl hl)
  · have : l = [] := List.eq_nil_of_length_eq_zero (by omega)
    subst this
    exact Bs.empty w' ao
theorem Bs.ch {S : Nat → Prop} {w w' : World} {ao : Option Addr} {l : List UInt8} (h : Bs w ao l) (hc : Ch S w w') (hS : ∀ b off, ao = some ⟨b, off, none⟩ → 0 < l.length → ¬ S b) : Bs w' ao l :=
  h.block fun b off hao hl => by subst hao; exact hc.block b (h.block_lt hl) (hS b off rfl hl)
theorem Bs.below {w w' : World} {ao : Option Addr} {l : List UInt8} (h : Bs w ao l) (hc : Below w.heap.size w w') : Bs w' ao l :=
  h.block fun b off hao hl => by subst hao; exact hc.block b (h.block_lt hl)
theorem Bs.drop {w : World} {b off : Nat} {l : List UInt8} (h : Bs w (some ⟨b, off, none⟩) l) (k : Nat) : Bs w (some ⟨b, off + k, none⟩) (l.drop k) :=
  Bs.of_plain fun j x hj => by
    rw [List.getElem?_drop] at hj
    rw [Nat.add_assoc]
    exact h.plain _ _ hj
theorem Bs.take {w : World} {ao : Option Addr} {l : List UInt8} (h : Bs w ao l) (k : Nat) : Bs w ao (l.take k) :=
  ⟨fun hn => by rw [h.1 hn]; simp, fun ad had j x hj => h.2 ad had j x (by rw [List.getElem?_take] at hj; split at hj; exact hj; cases hj)⟩
/-- its block holds bytes: another kind's block is another -/
theorem Bs.ne {w : World} {b off : Nat} {l : List UInt8} (h : Bs w (some ⟨b, off, none⟩) l) (hl : 0 < l.length) {g : Nat} {cs : Array Value} {t : TypeId} {fr : Nat × Nat} (hg : w.heap[g]? = some (.cells cs t fr)) (hcs : ∀ (i : Nat) k x, cs[i]? = some (Value.int k x) → k ≠ .u8) : b ≠ g := by
  rintro rfl
  have := h.cell 0 hl
  simp only [World.cell?, hg] at this
  exact hcs _ _ _ this rfl

theorem oneCell_bv (l : List UInt8) : ∀ u ∈ l.map bv, u.oneCell' = true := by
  intro u hu
  obtain ⟨_, _, rfl⟩ := List.mem_map.1 hu
  rfl
theorem Bs.news {w : World} {ad : Addr} {l : List UInt8} (h : Bs w (some ad) l) : ∀ j u, (l.map bv)[j]? = some u → w.cell? (ad.add j) = some u := by
  intro j u hu
  rw [List.getElem?_map] at hu
  obtain ⟨b, hb, rfl⟩ := Option.map_eq_some_iff.1 hu
  exact h.2 _ rfl j b hb

/-- bytes that the call owns from block B on -/
abbrev Ow (w : World) (B : Nat) (v : Value) (l : List UInt8) : Prop := RowO w B 5 1 v l.length (l.map bv)
theorem info_u8 : (Tryd.prog.info? 5).map (fun i => (i.zero, i.size, i.bytes)) = some (some (.int .u8 0), 1, 1) := by kernel_rfl
theorem Ow.nil (w : World) (B : Nat) : Ow w B (.slice none 0 0) [] := RowO.nil w B _ _
/-- what is owned reads -/
theorem Ow.bs {w : World} {B : Nat} {v : Value} {l : List UInt8} (h : Ow w B v l) : ∃ ao c, v = .slice ao l.length c ∧ Bs w ao l ∧ l.length ≤ c ∧ (∀ b off sp, ao = some ⟨b, off, sp⟩ → B ≤ b ∧ b < w.heap.size ∧ off = 0) := by
  obtain ⟨h1, h2⟩ := id h
  rcases h2 with ⟨hv, hn⟩ | ⟨g, cap, cur, fz, hv, hg, hh, hf, hn, hc, hs, ht⟩
  · have : l = [] := List.eq_nil_of_length_eq_zero hn
    subst this
    exact ⟨none, 0, by simpa using hv, Bs.nil w, by simp, nofun⟩
  · refine ⟨some ⟨g, 0, none⟩, cap, hv, Bs.of_plain fun j b hj => ?_, hn, fun b off sp hb => ?_⟩
    · have := h.cells (g := g) (by rw [hv]; rfl) j (bv b) (by rw [List.getElem?_map, hj]; rfl)
      rw [Addr.add_lit] at this
      exact this
    · cases hb
      exact ⟨hg, lt_of_block hh, rfl⟩
theorem Ow.bs' {w : World} {B : Nat} {v : Value} {l : List UInt8} (h : Ow w B v l) : ∃ ao c, v = .slice ao l.length c ∧ Bs w ao l ∧ l.length ≤ c ∧ (∀ b off sp, ao = some ⟨b, off, sp⟩ → B ≤ b ∧ b < w.heap.size ∧ off = 0) ∧ (ao = none → c = 0) := by
  obtain ⟨ao, c, hv, h1, h2, h3⟩ := h.bs
  refine ⟨ao, c, hv, h1, h2, h3, fun hn => ?_⟩
  rcases h.2 with ⟨hv', _⟩ | ⟨g, cap, cur, fz, hv', _⟩
  · rw [hv] at hv'
    injection hv' with _ _ e3
  · rw [hv, hn] at hv'
    injection hv' with e1
    cases e1
theorem Ow.below {w w' : World} {B : Nat} {v : Value} {l : List UInt8} (h : Ow w B v l) (hb : Below w.heap.size w w') : Ow w' B v l :=
  RowO.kept (row := none) h ⟨hb.os, hb.tape, hb.output, hb.size, fun k hk _ => hb.block k hk⟩ (by cases v.ownBlock <;> simp)
/-- an owned row stays while another block is written -/
theorem Ow.ch {S : Nat → Prop} {w w' : World} {B : Nat} {v : Value} {l : List UInt8} (h : Ow w B v l) (hc : Ch S w w') (hS : ∀ k, v.ownBlock = some k → ¬ S k) : Ow w' B v l :=
  RowO.keep h fun k hk => hc.block k (RowO.lt h k hk).2 (hS k hk)
theorem Ow.ge {w : World} {B : Nat} {v : Value} {l : List UInt8} (h : Ow w B v l) : ∀ k, v.ownBlock = some k → B ≤ k ∧ k < w.heap.size := RowO.lt h
theorem Ch.grown {S : Nat → Prop} {a w w' : World} {row : Option Nat} (h : Ch S a w) (hg : w.grownBy w' row) (hr : ∀ k, row = some k → S k ∨ a.heap.size ≤ k) : Ch S a w' :=
  ⟨hg.os.trans h.os, hg.tape.trans h.tape, hg.output.trans h.output, Nat.le_trans h.size hg.size, fun k hk hs =>
    (hg.block k (Nat.lt_of_lt_of_le hk h.size) (fun e => by rcases hr k e.symm with x | x; exact hs x; omega)).trans (h.block k hk hs)⟩
theorem ErrVar.ch {S : Nat → Prop} {g : Nat} {w w' : World} (h : ErrVar g w) (hc : Ch S w w') (hS : ¬ S g) : ErrVar g w' := by
  obtain ⟨ev, he, hev⟩ := h
  exact ⟨ev, (World.cell?_of_block (w := w) (hc.block g (World.block_lt_of_cell? w _ he) hS)).trans he, hev⟩
theorem ErrVar.lt {g : Nat} {w : World} (h : ErrVar g w) : g < w.heap.size := by
  obtain ⟨ev, he, hev⟩ := h
  exact World.block_lt_of_cell? w _ he
theorem Below.of_ch {w w' : World} (h : Ch (fun _ => False) w w') : Below w.heap.size w w' := ⟨h.os, h.tape, h.output, h.size, fun k hk => h.block k hk id⟩
theorem Ch.of_below {S : Nat → Prop} {w w' : World} (h : Below w.heap.size w w') : Ch S w w' := ⟨h.os, h.tape, h.output, h.size, fun k hk _ => h.block k hk⟩

/-- append(v, bytes...), v the call's own -/
theorem run_app (w : World) (B : Nat) (ty : TypeId) (v : Value) (out : List UInt8) (hown : Ow w B v out) (ao : Option Addr) (m c : Nat) (l : List UInt8) (hm : l.length = m) (hB : Bs w ao l) (hc : ao = none → c = 0)
    (hsz : out.length + m ≤ 70368744177664) (hbase : B ≤ w.heap.size) :
    ∃ v' w', (Builtin.append_ #[43, 43] ty #[v, .slice ao m c]).run Tryd.prog w = .ok v' w' ∧ Ow w' B v' (out ++ l) ∧ w.grownBy w' v.ownBlock ∧ (v' = .slice none 0 0 ↔ v = .slice none 0 0 ∧ m = 0) ∧ (∀ k, v'.ownBlock = some k → v.ownBlock = some k ∨ w.heap.size ≤ k) := by
  obtain ⟨i, hi, hz, hs1, hb1⟩ := info_parts info_u8
  subst hm
  cases ao with
  | none =>
    have := hB.1 rfl
    subst this
    have := hc rfl
    subst this
    refine ⟨v, w, ?_, by simpa using hown, World.grownBy.refl _ _, by simp, fun k hk => .inl hk⟩
    exact run_appendO_none w B 43 ty 5 i 1 Tryd.underlying43 hi v out.length (out.map bv) hown
  | some ad =>
    obtain ⟨v', w', h1, h2, h3, h4⟩ := run_appendO (P := Tryd.prog) w B 43 ty 5 i (.int .u8 0) 1 1 Tryd.underlying43 hi hz hs1 hb1 rfl (by omega) v out.length (out.map bv) hown ad l.length c (l.map bv) (by simp) hB.news (oneCell_bv l)
      (by unfold maxLen; omega) (by omega) hbase
    exact ⟨v', w', h1, by unfold Ow; rw [List.length_append, List.map_append]; exact h2, h3, h4⟩
/-- the same as an operation of a walk -/
theorem wp_app {w : World} {ops : Array Oper} {rest : List Oper} {o : Oper} {a : Act} {Q : Exit → Act → World → Prop} (hgd : o.guard = none) (s x : Operand)
    (ho : o.op = .call { callee := .builtin .append, args := #[s, x], argTypes := #[43, 43] })
    (B : Nat) (v : Value) (out : List UInt8) (hs : a.eval s = v) (hown : Ow w B v out) (ao : Option Addr) (m c : Nat) (hx : a.eval x = .slice ao m c) (l : List UInt8) (hm : l.length = m) (hB : Bs w ao l) (hc : ao = none → c = 0)
    (hsz : out.length + m ≤ 70368744177664) (hbase : B ≤ w.heap.size)
    (h : ∀ v' w', Ow w' B v' (out ++ l) → w.grownBy w' v.ownBlock → ((v' = .slice none 0 0 ↔ v = .slice none 0 0 ∧ m = 0) ∧ (∀ k, v'.ownBlock = some k → v.ownBlock = some k ∨ w.heap.size ≤ k)) → wpList Tryd.prog ops Q rest (a.put o.dst v') w') : wpList Tryd.prog ops Q (o :: rest) a w := by
  refine wpList_plain hgd fun K hK => ?_
  obtain ⟨v', w', hr, h2, h3, h4⟩ := run_app w B o.type v out hown ao m c l hm hB hc hsz hbase
  unfold Oper.wp execOp
  simp only [ho, resolve, invoke, builtin, Sem.run_bind, Sem.run_pure, Result.andThen_ok, List.map_toArray, List.map_cons, List.map_nil, hs, hx, hr]
  exact hK _ _ (h v' w' h2 h3 h4)
/-- in a region that draws its order -/
theorem step_app {w : World} {ops : Array Oper} {o : Oper} {a : Act} {K : Act → World → Prop} {Q : Exit → Act → World → Prop} {E : Prop} (hgd : o.guard = none) (s x : Operand)
    (ho : o.op = .call { callee := .builtin .append, args := #[s, x], argTypes := #[43, 43] })
    (B : Nat) (v : Value) (out : List UInt8) (hs : a.eval s = v) (hown : Ow w B v out) (ao : Option Addr) (m c : Nat) (hx : a.eval x = .slice ao m c) (l : List UInt8) (hm : l.length = m) (hB : Bs w ao l) (hc : ao = none → c = 0)
    (hsz : out.length + m ≤ 70368744177664) (hbase : B ≤ w.heap.size)
    (h : ∀ v' w', Ow w' B v' (out ++ l) → w.grownBy w' v.ownBlock → ((v' = .slice none 0 0 ↔ v = .slice none 0 0 ∧ m = 0) ∧ (∀ k, v'.ownBlock = some k → v.ownBlock = some k ∨ w.heap.size ≤ k)) → K (a.put o.dst v') w') :
    if Region.wanted o (yielded ops a.tmps) = true then Oper.wp Tryd.prog o a w K Q else E := by
  have hw : Region.wanted o (yielded ops a.tmps) = true := by simp [Region.wanted, hgd]
  rw [if_pos hw]
  obtain ⟨v', w', hr, h2, h3, h4⟩ := run_app w B o.type v out hown ao m c l hm hB hc hsz hbase
  unfold Oper.wp execOp
  simp only [ho, resolve, invoke, builtin, Sem.run_bind, Sem.run_pure, Result.andThen_ok, List.map_toArray, List.map_cons, List.map_nil, hs, hx, hr]
  exact h v' w' h2 h3 h4
/-- append(v, text...), v the call's own -/
theorem run_app_str (w : World) (B : Nat) (ty : TypeId) (v : Value) (out : List UInt8) (hown : Ow w B v out) (s : ByteArray) (hsz : out.length + s.size ≤ 70368744177664) (hbase : B ≤ w.heap.size) :
    ∃ v' w', (Builtin.append_ #[43, 9] ty #[v, .string s]).run Tryd.prog w = .ok v' w' ∧ Ow w' B v' (out ++ s.data.toList) ∧ w.grownBy w' v.ownBlock ∧ (v' = .slice none 0 0 ↔ v = .slice none 0 0 ∧ s.size = 0) ∧ (∀ k, v'.ownBlock = some k → v.ownBlock = some k ∨ w.heap.size ≤ k) := by
  obtain ⟨i, hi, hz, hs1, hb1⟩ := info_parts info_u8
  obtain ⟨v', w', h1, h2, h3, h4⟩ := run_append_stringO (P := Tryd.prog) w B 43 9 ty 5 i Tryd.underlying43 Tryd.underlying9 hi hz hs1 hb1 v out.length (out.map bv) hown s (by unfold maxLen; omega) (by omega) hbase
  refine ⟨v', w', h1, ?_, h3, h4⟩
  unfold Ow
  rw [List.length_append, List.map_append]
  have e1 : Lib.strCells s = s.data.toList.map bv := rfl
  rw [← e1]
  exact h2
theorem wp_app_str {w : World} {ops : Array Oper} {rest : List Oper} {o : Oper} {a : Act} {Q : Exit → Act → World → Prop} (hgd : o.guard = none) (sl x : Operand)
    (ho : o.op = .call { callee := .builtin .append, args := #[sl, x], argTypes := #[43, 9] })
    (B : Nat) (v : Value) (out : List UInt8) (hs : a.eval sl = v) (hown : Ow w B v out) (s : ByteArray) (hx : a.eval x = .string s) (hsz : out.length + s.size ≤ 70368744177664) (hbase : B ≤ w.heap.size)
    (h : ∀ v' w', Ow w' B v' (out ++ s.data.toList) → w.grownBy w' v.ownBlock → ((v' = .slice none 0 0 ↔ v = .slice none 0 0 ∧ s.size = 0) ∧ (∀ k, v'.ownBlock = some k → v.ownBlock = some k ∨ w.heap.size ≤ k)) → wpList Tryd.prog ops Q rest (a.put o.dst v') w') : wpList Tryd.prog ops Q (o :: rest) a w := by
  refine wpList_plain hgd fun K hK => ?_
  obtain ⟨v', w', hr, h2, h3, h4⟩ := run_app_str w B o.type v out hown s hsz hbase
  unfold Oper.wp execOp
  simp only [ho, resolve, invoke, builtin, Sem.run_bind, Sem.run_pure, Result.andThen_ok, List.map_toArray, List.map_cons, List.map_nil, hs, hx, hr]
  exact hK _ _ (h v' w' h2 h3 h4)
theorem Below.of_ge {w w' : World} (h : Ch (fun k => w.heap.size ≤ k) w w') : Below w.heap.size w w' := ⟨h.os, h.tape, h.output, h.size, fun k hk => h.block k hk (by omega)⟩
theorem Ow.mono {w : World} {B B' : Nat} {v : Value} {l : List UInt8} (h : Ow w B v l) (hB : B' ≤ B) : Ow w B' v l := RowO.mono h hB
theorem Ch.ge_mono {a w w' : World} {B : Nat} (h : Ch (fun k => B ≤ k) w w') (hw : Below a.heap.size a w) (hB : a.heap.size ≤ B) : Below a.heap.size a w' :=
  ⟨h.os.trans hw.os, h.tape.trans hw.tape, h.output.trans hw.output, Nat.le_trans hw.size h.size, fun k hk => (h.block k (Nat.lt_of_lt_of_le hk hw.size) (by omega)).trans (hw.block k hk)⟩
/-- an append onto what the call owns from its own base on leaves the elder world as it was -/
theorem Below.own {a w w' : World} {B : Nat} {v : Value} {l : List UInt8} (h : Below a.heap.size a w) (ho : Ow w B v l) (hg : w.grownBy w' v.ownBlock) (hB : a.heap.size ≤ B) : Below a.heap.size a w' :=
  h.grown hg h.size fun k hk => Nat.le_trans hB (ho.ge k hk).1
/-- '[]byte(s)' is owned -/
theorem Ow.bytes (w : World) (s : ByteArray) (hm : s.size ≤ 70368744177664) : Ow (Lib.bytesWorld w 5 s) w.heap.size (.slice (some ⟨w.heap.size, 0, none⟩) s.size (grownCap w s.size 0 5)) s.data.toList := by
  have h := RowO.bytes w 5 s (by unfold maxLen; omega)
  unfold Ow
  have e1 : Lib.strCells s = s.data.toList.map bv := rfl
  rw [← e1]
  have e2 : s.data.toList.length = s.size := Array.length_toList
  rw [e2]
  exact h
/-- 'string(b)' -/
theorem run_str {w : World} {ao : Option Addr} {l : List UInt8} (h : Bs w ao l) {n : Nat} (hn : l.length = n) (c : Nat) : (convert 43 9 (.slice ao n c)).run Tryd.prog w = .ok (.string ⟨l.toArray⟩) w := by
  cases ao with
  | none =>
    have := h.1 rfl
    subst this
    exact run_convert_bytes_nil (P := Tryd.prog) w 43 5 Tryd.underlying43 Tryd.underlying5 n c 9 Tryd.underlying9
  | some ad =>
    have hld : (loadCells ad n).run Tryd.prog w = .ok (l.map bv).toArray w := by
      have := run_loadCells_list (P := Tryd.prog) w ad (l.map bv) (by
        intro j v hj
        rw [List.getElem?_map] at hj
        obtain ⟨b, hb, rfl⟩ := Option.map_eq_some_iff.1 hj
        exact h.2 _ rfl j b hb)
      rw [List.length_map, hn] at this
      exact this
    have hx : (loadCells ad n).run Tryd.prog w = .ok ((l.map fun b => (b.toNat : Int)).map (Value.int .u8)).toArray w := by
      rw [List.map_map]; exact hld
    have e : strOfNums (l.map fun b => (b.toNat : Int)) = ⟨l.toArray⟩ := by
      unfold strOfNums
      simp [List.map_map, Function.comp_def]
    rw [← e, run_convert_bytes_string w 43 9 5 _ n c Tryd.underlying43 Tryd.underlying5 Tryd.underlying9, run_bytesToString w _ n c _ hx, foldl_push_bytes]
    simp [strOfNums, ByteArray.empty, ByteArray.emptyWithCapacity]
    rfl
/-- a block of bytes, written out -/
theorem Bs.of_block {w : World} {g : Nat} {l : List UInt8} {t : TypeId} {fr : Nat × Nat} (h : w.heap[g]? = some (.cells (l.map bv).toArray t fr)) : Bs w (some ⟨g, 0, none⟩) l :=
  Bs.of_plain fun j b hj => by simp [World.cell?, h, hj]
theorem GV_below {w w' : World} {g : Nat} (h : ErrVar g w) (hb : Below w.heap.size w w') : ErrVar g w' := h.ch (Ch.of_below (S := fun _ => False) hb) id
theorem Below.ch {S : Nat → Prop} {B : Nat} {a w w' : World} (h : Below B a w) (hc : Ch S w w') (hS : ∀ k, S k → B ≤ k) (hB : B ≤ w.heap.size) : Below B a w' :=
  h.trans ⟨hc.os, hc.tape, hc.output, hc.size, fun k hk => hc.block k (by omega) (fun hs => by have := hS k hs; omega)⟩
end Go.Proofs.YteneioapchhehaaDoor

/- More of what all the proofs share: appends under a guard, the empty row. -/
namespace Go.Proofs.YteneioapchhehaaDoor
open Go.RowKit

theorem wp_app_g {w : World} {ops : Array Oper} {rest : List Oper} {o : Oper} {a : Act} {Q : Exit → Act → World → Prop} (hw : Region.wanted o (yielded ops a.tmps) = true) (s x : Operand)
    (ho : o.op = .call { callee := .builtin .append, args := #[s, x], argTypes := #[43, 43] })
    (B : Nat) (v : Value) (out : List UInt8) (hs : a.eval s = v) (hown : Ow w B v out) (ao : Option Addr) (m c : Nat) (hx : a.eval x = .slice ao m c) (l : List UInt8) (hm : l.length = m) (hB : Bs w ao l) (hc : ao = none → c = 0)
    (hsz : out.length + m ≤ 70368744177664) (hbase : B ≤ w.heap.size)
    (h : ∀ v' w', Ow w' B v' (out ++ l) → w.grownBy w' v.ownBlock → ((v' = .slice none 0 0 ↔ v = .slice none 0 0 ∧ m = 0) ∧ (∀ k, v'.ownBlock = some k → v.ownBlock = some k ∨ w.heap.size ≤ k)) → wpList Tryd.prog ops Q rest (a.put o.dst v') w') : wpList Tryd.prog ops Q (o :: rest) a w := by
  refine BigFrame.wpList_want hw fun K hK => ?_
  obtain ⟨v', w', hr, h2, h3, h4⟩ := run_app w B o.type v out hown ao m c l hm hB hc hsz hbase
  unfold Oper.wp execOp
  simp only [ho, resolve, invoke, builtin, Sem.run_bind, Sem.run_pure, Result.andThen_ok, List.map_toArray, List.map_cons, List.map_nil, hs, hx, hr]
  exact hK _ _ (h v' w' h2 h3 h4)
/-- '[]byte{}' is owned -/
theorem Ow.lit0 (w : World) (B : Nat) (hB : B ≤ w.heap.size) : Ow (w.alloc (.cells #[] 5)) B (.slice (some ⟨w.heap.size, 0, none⟩) 0 0) [] :=
  ⟨rfl, .inr ⟨w.heap.size, 0, #[], (0, 0), rfl, hB, heap_alloc_new w _, fun j _ h => by omega, Nat.le_refl _, Nat.zero_le _, rfl, rfl⟩⟩
theorem Ow.of_bs {w : World} {B : Nat} {v : Value} {l : List UInt8} (h : Ow w B v l) : ∃ ao c, v = .slice ao l.length c ∧ Bs w ao l ∧ l.length ≤ c ∧ (ao = none → c = 0) := by
  obtain ⟨ao, c, h1, h2, h3, -, h5⟩ := h.bs'
  exact ⟨ao, c, h1, h2, h3, h5⟩
/-- a slice of bytes, sliced: its beginning -/
theorem sliced_to (a : Option Addr) (k c s : Nat) : sliced a 0 k c s = .slice a k c := by
  unfold sliced
  cases a with
  | none => simp
  | some ad =>
    obtain ⟨b, off, sp⟩ := ad
    simp [Addr.add]
theorem elem_bytes : Tryd.prog.underlying 43 = some (.slice (Tryd.prog.elem 43)) := by kernel_rfl
set_option maxRecDepth 100000 in
theorem size_bytes (w : World) : (sizeOf (Tryd.prog.elem 43)).run Tryd.prog w = .ok 1 w := by
  have h : Tryd.prog.elem 43 = 5 := by kernel_rfl
  rw [h]
  rfl
theorem run_sliceTo (w : World) (ao : Option Addr) (n c k : Nat) (hk : k ≤ c) : (Instr.sliceAt 43 (.slice ao n c) none (some (.int .i64 k)) none).run Tryd.prog w = .ok (.slice ao k c) w := by
  rw [run_sliceAt_slice (P := Tryd.prog) (w := w) 43 _ _ _ _ elem_bytes, run_slice_h (P := Tryd.prog) (w := w) 43 ao n c elem_bytes .i64 k (by omega) (by omega), size_bytes, Result.andThen_ok, sliced_to]
  rfl
/-- .. and what is behind -/
def fromA (a : Option Addr) (c k : Nat) : Option Addr := if c = k then a else a.map (·.add (k * 1))
theorem run_sliceFrom (w : World) (ao : Option Addr) (n c k : Nat) (hk : k ≤ n) : (Instr.sliceAt 43 (.slice ao n c) (some (.int .i64 k)) none none).run Tryd.prog w = .ok (.slice (fromA ao c k) (n - k) (c - k)) w := by
  rw [run_sliceAt_slice (P := Tryd.prog) (w := w) 43 _ _ _ _ elem_bytes, run_slice_l (P := Tryd.prog) (w := w) 43 ao n c elem_bytes .i64 k (by omega) (by omega), size_bytes, Result.andThen_ok]
  rfl
theorem run_sliceBetween (w : World) (ao : Option Addr) (n c k h : Nat) (hk : k ≤ h) (hh : h ≤ c) : (Instr.sliceAt 43 (.slice ao n c) (some (.int .i64 k)) (some (.int .i64 h)) none).run Tryd.prog w = .ok (.slice (fromA ao c k) (h - k) (c - k)) w := by
  rw [run_sliceAt_slice (P := Tryd.prog) (w := w) 43 _ _ _ _ elem_bytes, run_slice_lh (P := Tryd.prog) (w := w) 43 ao n c elem_bytes .i64 .i64 k h (by omega) (by omega) (by omega), size_bytes, Result.andThen_ok]
  rfl
theorem fromA_none {a : Option Addr} {c k : Nat} (h : fromA a c k = none) : a = none := by
  unfold fromA at h
  split at h
  · exact h
  · cases a
    · rfl
    · cases h
theorem Bs.from {w : World} {ao : Option Addr} {l : List UInt8} (h : Bs w ao l) (c k : Nat) (hc : l.length ≤ c) : Bs w (fromA ao c k) (l.drop k) := by
  by_cases hk : k < l.length
  · obtain ⟨b, off, rfl⟩ := h.some_of (by omega)
    unfold fromA
    rw [if_neg (by omega)]
    have := h.drop k
    rw [show (some (⟨b, off, none⟩ : Addr)).map (·.add (k * 1)) = some ⟨b, off + k, none⟩ from by simp [Addr.add]]
    exact this
  · rw [List.drop_eq_nil_of_le (by omega)]
    exact Bs.empty w _
end Go.Proofs.YteneioapchhehaaDoor

/- A part of the proofs over package chunk. -/
namespace Go.Proofs.YteneioapchhehaaDoor
open Go.RowKit

def plainB (c : Int) : Bool := (decide (32 ≤ c) && decide (c ≤ 126)) || c == 9

set_option maxHeartbeats 400000 in
theorem plain_calls (c : Int) (w : World) : Calls Tryd.prog 78 #[.int .u8 c] w fun e w' => e = .returned (.bool (plainB c)) ∧ w = w' := by
  by_cases h1 : 32 ≤ c <;> by_cases h2 : c ≤ 126 <;> by_cases h3 : (c == 9) = true
  all_goals
    go_enter Tryd.func78, Tryd.ntmps78
    go_wp2
    go_ret
    exact ⟨by simp [plainB, *], rfl⟩
end Go.Proofs.YteneioapchhehaaDoor

/- A part of the proofs over package chunk. -/
namespace Go.Proofs.YteneioapchhehaaDoor
open Go.RowKit

structure Rd where
  st : Int
  ln : Int
  mn : Int
  lf : Int

def RdAt (w : World) (g : Nat) (r : Rd) : Prop := w.heap[g]? = some (.cells #[.int .i64 r.st, .int .i64 r.ln, .int .i64 r.mn, .int .i64 r.lf] 101 (0, 0))

theorem RdAt.cells {w : World} {g : Nat} {r : Rd} (h : RdAt w g r) :
    w.cell? ⟨g, 0, none⟩ = some (.int .i64 r.st) ∧ w.cell? ⟨g, 1, none⟩ = some (.int .i64 r.ln) ∧ w.cell? ⟨g, 2, none⟩ = some (.int .i64 r.mn) ∧ w.cell? ⟨g, 3, none⟩ = some (.int .i64 r.lf) ∧
    w.frozen? ⟨g, 0, none⟩ = false ∧ w.frozen? ⟨g, 1, none⟩ = false ∧ w.frozen? ⟨g, 2, none⟩ = false ∧ w.frozen? ⟨g, 3, none⟩ = false :=
  ⟨(blk_cell h 0).trans rfl, (blk_cell h 1).trans rfl, (blk_cell h 2).trans rfl, (blk_cell h 3).trans rfl, blk_free h _, blk_free h _, blk_free h _, blk_free h _⟩

theorem RdAt.set0 {w : World} {g : Nat} {r : Rd} (h : RdAt w g r) (x : Int) : RdAt (w.setCell ⟨g, 0, none⟩ (.int .i64 x)) g { r with st := x } := blk_set h 0 _
theorem RdAt.set1 {w : World} {g : Nat} {r : Rd} (h : RdAt w g r) (x : Int) : RdAt (w.setCell ⟨g, 1, none⟩ (.int .i64 x)) g { r with ln := x } := blk_set h 1 _
theorem RdAt.set2 {w : World} {g : Nat} {r : Rd} (h : RdAt w g r) (x : Int) : RdAt (w.setCell ⟨g, 2, none⟩ (.int .i64 x)) g { r with mn := x } := blk_set h 2 _
theorem RdAt.set3 {w : World} {g : Nat} {r : Rd} (h : RdAt w g r) (x : Int) : RdAt (w.setCell ⟨g, 3, none⟩ (.int .i64 x)) g { r with lf := x } := blk_set h 3 _
theorem RdAt.drew {w : World} {g : Nat} {r : Rd} (h : RdAt w g r) : RdAt w.drew g r := h

set_option maxHeartbeats 400000 in
theorem more_calls (w : World) (g : Nat) (r : Rd) (h : RdAt w g r) (hb : 0 ≤ r.ln ∧ r.ln ≤ 1000) :
    Calls Tryd.prog 76 #[.pointer (some ⟨g, 0, none⟩)] w fun e w' => e = .returned (.bool (decide (r.ln + 1 ≤ 200))) ∧ w.setCell ⟨g, 1, none⟩ (.int .i64 (r.ln + 1)) = w' := by
  obtain ⟨st, ln, mn, lf⟩ := r
  obtain ⟨c0, c1, c2, c3, f0, f1, f2, f3⟩ := h.cells
  dsimp only at *
  obtain ⟨hb0, hb1⟩ := hb
  clear h
  go_enter Tryd.func76, Tryd.ntmps76
  go_wp2
  go_ret
  exact ⟨rfl, rfl⟩

def sizedN (lf : Int) : Int := if lf = 0 then 6 else 3
set_option maxHeartbeats 400000 in
theorem sized_calls (w : World) (g : Nat) (r : Rd) (h : RdAt w g r)  :
    Calls Tryd.prog 79 #[.pointer (some ⟨g, 0, none⟩)] w fun e w' => e = .returned (.int .i64 (sizedN r.lf)) ∧ w = w' := by
  obtain ⟨st, ln, mn, lf⟩ := r
  obtain ⟨c0, c1, c2, c3, f0, f1, f2, f3⟩ := h.cells
  dsimp only at *
  clear h
  by_cases h0 : lf = 0
  · subst h0
    rw [show sizedN 0 = 6 from rfl]
    go_enter Tryd.func79, Tryd.ntmps79
    go_wp2
    go_ret
    exact ⟨rfl, rfl⟩
  · rw [show sizedN lf = 3 from if_neg h0]
    have h1 : (lf == 0) = false := by simpa using h0
    go_enter Tryd.func79, Tryd.ntmps79
    go_wp2
    go_ret
    exact ⟨rfl, rfl⟩

set_option maxHeartbeats 400000 in
theorem expect_calls (w : World) (g : Nat) (r : Rd) (h : RdAt w g r) (c want next : Int) :
    Calls Tryd.prog 77 #[.pointer (some ⟨g, 0, none⟩), .int .u8 c, .int .u8 want, .int .i64 next] w fun e w' => e = .returned (.bool (c == want)) ∧ 
      (if c = want then (w.setCell ⟨g, 0, none⟩ (.int .i64 next)).setCell ⟨g, 1, none⟩ (.int .i64 0) else w) = w' := by
  obtain ⟨st, ln, mn, lf⟩ := r
  obtain ⟨c0, c1, c2, c3, f0, f1, f2, f3⟩ := h.cells
  dsimp only at *
  clear h
  by_cases h0 : c = want
  · subst h0
    rw [if_pos rfl]
    go_enter Tryd.func77, Tryd.ntmps77
    go_wp2
    go_ret
    exact ⟨by simp, rfl⟩
  · rw [if_neg h0]
    have h1 : (c == want) = false := by simpa using h0
    go_enter Tryd.func77, Tryd.ntmps77
    go_wp2
    go_ret
    exact ⟨by rw [h1]; rfl, rfl⟩

end Go.Proofs.YteneioapchhehaaDoor

/- A part of the proofs over package chunk. -/
namespace Go.Proofs.YteneioapchhehaaDoor
open Go.RowKit

set_option maxHeartbeats 400000 in
theorem lower_calls (c : Int) (w : World) : Calls Tryd.prog 99 #[.int .u8 c] w fun e w' => e = .returned (.int .u8 (Go.bits .or .u8 c 32)) ∧ w = w' := by
  go_enter Tryd.func99, Tryd.ntmps99
  go_wp2
  go_ret
  exact ⟨rfl, rfl⟩

theorem bw_below (w : World) (s : ByteArray) : Below w.heap.size w (Lib.bytesWorld w 5 s) :=
  ⟨rfl, rfl, rfl, by rw [Lib.bytesWorld_size]; omega, fun k hk => Lib.bytesWorld_at_old w 5 s k hk⟩

set_option maxHeartbeats 400000 in
set_option maxRecDepth 100000 in
theorem pu_digit (b : UInt8) (h1 : 48 ≤ b.toNat) (h2 : b.toNat ≤ 57) (w : World) : Calls Tryd.prog 86 #[.string ⟨#[b]⟩, .int .i64 16, .int .i64 8] w fun e w' => e = .returned (.tuple #[.int .u64 (b.toNat - 48), .nilIface]) ∧ Below w.heap.size w w' := by
  have hc := Lib.run_convert_string_bytes (P := Tryd.prog) w 9 43 5 ⟨#[b]⟩ Tryd.underlying9 Tryd.underlying43 Tryd.underlying5
  have HB := Lib.hid (bw_below w ⟨#[b]⟩)
  go_enter Tryd.func86, Tryd.ntmps86
  go_wp2_with fail
  clear hc
  generalize hw1 : Lib.bytesWorld w 5 ⟨#[b]⟩ = w1 at *
  have c1 : w1.cell? ⟨w.heap.size, 0, none⟩ = some (.int .u8 b.toNat) := by rw [← hw1]; exact Lib.bytesWorld_cell w 5 ⟨#[b]⟩ 0 (by simp [ByteArray.size])
  clear hw1
  refine wp_loop_rounds 2 ?_
  rw [rounds_succ]
  go_wp2_with fail
  rw [rounds_succ]
  go_wp2_with fail
  go_ret2
  exact ⟨rfl, HB.out⟩

set_option maxHeartbeats 400000 in
set_option maxRecDepth 100000 in
theorem pu_letter (b : UInt8) (h0 : 57 < b.toNat) (n95 : (((b.toNat : Nat) : Int) == 95) = false) (hl : Int) (H : Hid (Go.bits .or .u8 (b.toNat : Int) 32 = hl)) (h1 : 97 ≤ hl) (h2 : hl ≤ 102) (w : World) : Calls Tryd.prog 86 #[.string ⟨#[b]⟩, .int .i64 16, .int .i64 8] w fun e w' => e = .returned (.tuple #[.int .u64 (hl - 87), .nilIface]) ∧ Below w.heap.size w w' := by
  have hc := Lib.run_convert_string_bytes (P := Tryd.prog) w 9 43 5 ⟨#[b]⟩ Tryd.underlying9 Tryd.underlying43 Tryd.underlying5
  have HB := Lib.hid (bw_below w ⟨#[b]⟩)
  go_enter Tryd.func86, Tryd.ntmps86
  go_wp2_with fail
  clear hc
  generalize hw1 : Lib.bytesWorld w 5 ⟨#[b]⟩ = w1 at *
  have c1 : w1.cell? ⟨w.heap.size, 0, none⟩ = some (.int .u8 b.toNat) := by rw [← hw1]; exact Lib.bytesWorld_cell w 5 ⟨#[b]⟩ 0 (by simp [ByteArray.size])
  clear hw1
  have lc : ∀ W, Calls Tryd.prog 99 #[.int .u8 (b.toNat : Int)] W fun e w' => e = .returned (.int .u8 hl) ∧ W = w' := fun W => by
    have := lower_calls b.toNat W
    rwa [H.out] at this
  have LC := Lib.hid lc
  clear lc
  refine wp_loop_rounds 2 ?_
  rw [rounds_succ]
  go_wp2_with (go_at_call 99; refine (LC.out _).mono ?_; rintro e w' ⟨rfl, rfl⟩)
  rw [rounds_succ]
  go_wp2_with fail
  go_ret2
  exact ⟨ret2 (iEq (by omega)) rfl, HB.out⟩


set_option maxHeartbeats 400000 in
set_option maxRecDepth 100000 in
theorem pu_bad (s : ByteArray) (b : UInt8) (hs : 0 < s.size) (hb : s.data.toList.getD 0 0 = b) (he : s.toList.isEmpty = false) (hd : (b.toNat : Int) < 48 ∨ 57 < (b.toNat : Int)) (x95 : Bool) (n95 : (((b.toNat : Nat) : Int) == 95) = x95) (hl : Int) (H : Hid (Go.bits .or .u8 (b.toNat : Int) 32 = hl)) (hn : hl < 97 ∨ 102 < hl) (hl2 : hl < 256) (w : World) : Calls Tryd.prog 86 #[.string s, .int .i64 16, .int .i64 8] w fun e w' => e = .returned (.tuple #[.int .u64 0, .iface 127 (.int .i64 2)]) ∧ Below w.heap.size w w' := by
  have hc := Lib.run_convert_string_bytes (P := Tryd.prog) w 9 43 5 s Tryd.underlying9 Tryd.underlying43 Tryd.underlying5
  have HB := Lib.hid (bw_below w s)
  have HC := Lib.hid (Lib.bytesWorld_cell w 5 s 0 hs)
  have Hb := Lib.hid hb
  clear hb
  have hs0 : (0 : Int) < s.size := by omega
  go_enter Tryd.func86, Tryd.ntmps86
  go_wp2_with fail
  clear hc
  generalize Lib.bytesWorld w 5 s = w1 at *
  have c1 : w1.cell? ⟨w.heap.size, 0, none⟩ = some (.int .u8 b.toNat) := by rw [HC.out, Hb.out]
  have lc : ∀ W, Calls Tryd.prog 99 #[.int .u8 (b.toNat : Int)] W fun e w' => e = .returned (.int .u8 hl) ∧ W = w' := fun W => by
    have := lower_calls b.toNat W
    rwa [H.out] at this
  have LC := Lib.hid lc
  clear lc
  refine wp_loop_rounds 1 ?_
  rw [rounds_succ]
  cases x95 <;> rcases hd with hd | hd <;> rcases hn with hn | hn
  all_goals
    go_wp2_with (go_at_call 99; refine (LC.out _).mono ?_; rintro e w' ⟨rfl, rfl⟩)
    all_goals
      go_ret2
      exact ⟨rfl, HB.out⟩

end Go.Proofs.YteneioapchhehaaDoor

/- A part of the proofs over package chunk. -/
namespace Go.Proofs.YteneioapchhehaaDoor
open Go.RowKit

set_option maxHeartbeats 400000 in
theorem pub_ok (s : ByteArray) (n : Int) (w : World) (hin : ∀ w, Calls Tryd.prog 86 #[.string s, .int .i64 16, .int .i64 8] w fun e w' => e = .returned (.tuple #[.int .u64 n, .nilIface]) ∧ Below w.heap.size w w') :
    Calls Tryd.prog 94 #[.string s, .int .i64 16, .int .i64 8] w fun e w' => e = .returned (.tuple #[.int .u64 n, .nilIface]) ∧ Below w.heap.size w w' := by
  have HI := Lib.hid hin
  clear hin
  go_enter Tryd.func94, Tryd.ntmps94
  go_wp2_with (go_at_call 86; refine (HI.out _).mono ?_; rintro e w' ⟨rfl, hb⟩)
  go_ret2
  exact ⟨rfl, hb⟩

set_option maxHeartbeats 400000 in
theorem pub_bad (s : ByteArray) (w : World) (hs : s.size < 100) (hE : ErrVar 0 w) (hin : ∀ w, Calls Tryd.prog 86 #[.string s, .int .i64 16, .int .i64 8] w fun e w' => e = .returned (.tuple #[.int .u64 0, .iface 127 (.int .i64 2)]) ∧ Below w.heap.size w w') :
    Calls Tryd.prog 94 #[.string s, .int .i64 16, .int .i64 8] w fun e w' => (∃ p, e = .returned (.tuple #[.int .u64 0, .iface 132 p])) ∧ Below w.heap.size w w' := by
  have HI := Lib.hid hin
  clear hin
  obtain ⟨ev, he, hev⟩ := hE
  have hg : 0 < w.heap.size := World.block_lt_of_cell? w _ he
  go_enter Tryd.func94, Tryd.ntmps94
  go_wp2_with fail
  refine (HI.out _).mono ?_
  rintro e w1 ⟨rfl, hb⟩
  have he1 : w1.cell? ⟨0, 0, none⟩ = some ev := (hb.cell hg).trans he
  clear he
  have HB := Lib.hid hb
  clear hb
  go_wp2_with fail
  refine (Tryd.strconv_toError_syntax _ _ _ _ ev _ (by omega) he1 hev).mono ?_
  rintro e w2 ⟨N, rfl, -, -, hb2⟩
  have HB2 := Lib.hid (HB.out.trans (hb2.mono HB.out.size))
  clear hb2
  go_wp2_with fail
  go_ret2
  exact ⟨⟨_, rfl⟩, HB2.out⟩

/-- a byte's worth as a hexadecimal digit; below 0: it is none -/
def hexV (c : Int) : Int := if 48 ≤ c ∧ c ≤ 57 then c - 48 else if 97 ≤ c ∧ c ≤ 102 then c - 87 else if 65 ≤ c ∧ c ≤ 70 then c - 55 else -1

def hexFact (n : Nat) : Bool :=
  let s := Utf8.encode n
  if hexV n < 0 then
    let b : Int := ((s.data.toList.getD 0 0).toNat : Int)
    decide (0 < s.size) && decide (s.size < 100) && !s.toList.isEmpty && (decide (b < 48) || decide (57 < b)) && (decide (Go.bits .or .u8 b 32 < 97) || decide (102 < Go.bits .or .u8 b 32)) && decide (Go.bits .or .u8 b 32 < 256)
  else s.data == #[UInt8.ofNat n] && (decide (48 ≤ n) && decide (n ≤ 57) && decide (hexV n = n - 48) ||
    decide (57 < n) && !((n : Int) == 95) && decide (97 ≤ Go.bits .or .u8 n 32) && decide (Go.bits .or .u8 n 32 ≤ 102) && decide (Go.bits .or .u8 n 32 - 87 = hexV n))
theorem hexFacts : ∀ n : Fin 256, hexFact n.val = true := by decide +kernel

set_option maxHeartbeats 400000 in
theorem hex_of (c : Int) (n : Int) (h0 : 0 ≤ c) (hc : c < 128) (w : World)
    (hin : Calls Tryd.prog 94 #[.string (Utf8.encode c), .int .i64 16, .int .i64 8] w fun e w' => e = .returned (.tuple #[.int .u64 n, .nilIface]) ∧ Below w.heap.size w w') (hn : 0 ≤ n ∧ n ≤ 15) :
    Calls Tryd.prog 75 #[.int .u8 c] w fun e w' => e = .returned (.tuple #[.int .i64 n, .bool true]) ∧ Below w.heap.size w w' := by
  have HI := Lib.hid hin
  clear hin
  obtain ⟨n0, n1⟩ := hn
  go_enter Tryd.func75, Tryd.ntmps75
  go_wp2_with fail
  refine HI.out.mono ?_
  rintro e w1 ⟨rfl, hb⟩
  have HB := Lib.hid hb
  clear hb
  go_wp2_with fail
  go_ret2
  exact ⟨ret2 (iEq rfl) rfl, HB.out⟩

set_option maxHeartbeats 400000 in
theorem hex_no (c : Int) (h0 : 0 ≤ c) (hc : c < 256) (w : World)
    (hin : Calls Tryd.prog 94 #[.string (Utf8.encode c), .int .i64 16, .int .i64 8] w fun e w' => (∃ p, e = .returned (.tuple #[.int .u64 0, .iface 132 p])) ∧ Below w.heap.size w w') :
    Calls Tryd.prog 75 #[.int .u8 c] w fun e w' => e = .returned (.tuple #[.int .i64 0, .bool false]) ∧ Below w.heap.size w w' := by
  have HI := Lib.hid hin
  clear hin
  go_enter Tryd.func75, Tryd.ntmps75
  go_wp2_with fail
  refine HI.out.mono ?_
  rintro e w1 ⟨⟨p, rfl⟩, hb⟩
  have HB := Lib.hid hb
  clear hb
  go_wp2_with fail
  go_ret2
  exact ⟨ret2 (iEq rfl) rfl, HB.out⟩

theorem hex_calls (c : Int) (h0 : 0 ≤ c) (h1 : c < 256) (w : World) (hE : ErrVar 0 w) :
    Calls Tryd.prog 75 #[.int .u8 c] w fun e w' => e = .returned (.tuple #[.int .i64 (if hexV c < 0 then 0 else hexV c), .bool (decide (0 ≤ hexV c))]) ∧ Below w.heap.size w w' := by
  obtain ⟨n, rfl⟩ := Int.eq_ofNat_of_zero_le h0
  have hf := hexFacts ⟨n, by omega⟩
  simp only [hexFact] at hf
  by_cases hv : hexV (n : Int) < 0
  · rw [if_pos hv, show decide (0 ≤ hexV (n : Int)) = false from by simp; omega]
    rw [if_pos hv] at hf
    simp only [Bool.and_eq_true, Bool.or_eq_true, decide_eq_true_eq, Bool.not_eq_true'] at hf
    obtain ⟨⟨⟨⟨⟨f1, f2⟩, f3⟩, f4⟩, f5⟩, f6⟩ := hf
    exact hex_no _ h0 h1 _ (pub_bad _ _ f2 hE fun w => pu_bad _ _ f1 rfl f3 f4 _ rfl _ rfl f5 f6 w)
  · rw [if_neg hv, show decide (0 ≤ hexV (n : Int)) = true from by simp; omega]
    rw [if_neg hv] at hf
    simp only [Bool.and_eq_true, Bool.or_eq_true, decide_eq_true_eq, Bool.not_eq_true', beq_iff_eq] at hf
    obtain ⟨f1, f2⟩ := hf
    have e1 : Utf8.encode (n : Int) = ⟨#[UInt8.ofNat n]⟩ := by
      cases h : Utf8.encode (n : Int) with
      | mk d => rw [h] at f1; simp only at f1; rw [f1]
    have e2 : (UInt8.ofNat n).toNat = n := by simp; omega
    have hr : 0 ≤ hexV (n : Int) ∧ hexV (n : Int) ≤ 15 := by
      refine ⟨by omega, ?_⟩
      unfold hexV at hv ⊢
      split
      · omega
      · split
        · omega
        · split <;> omega
    rcases f2 with ⟨⟨a1, a2⟩, a3⟩ | ⟨⟨⟨⟨a1, a2⟩, a3⟩, a4⟩, a5⟩
    · refine hex_of _ _ h0 (by omega) w (pub_ok _ _ w fun w => ?_) hr
      rw [e1]
      have := pu_digit (UInt8.ofNat n) (by omega) (by omega) w
      rw [e2] at this
      rw [a3]; exact this
    · have hn : (n : Int) < 128 := by
        unfold hexV at hv
        split at hv
        · omega
        · split at hv
          · omega
          · split at hv <;> omega
      refine hex_of _ _ h0 hn w (pub_ok _ _ w fun w => ?_) hr
      rw [e1]
      have := pu_letter (UInt8.ofNat n) (by omega) (by rw [e2]; exact a2) _ rfl (by rw [e2]; exact a3) (by rw [e2]; exact a4) w
      rw [e2, a5] at this
      exact this

end Go.Proofs.YteneioapchhehaaDoor

/- A part of the proofs over package chunk. -/
namespace Go.Proofs.YteneioapchhehaaDoor
open Go.RowKit

def moreS (r : Rd) : Rd × Bool := ({ r with ln := r.ln + 1 }, decide (r.ln + 1 ≤ 200))
def expectS (r : Rd) (c want next : Int) : Rd × Bool := if c = want then ({ r with st := next, ln := 0 }, true) else (r, false)
def takeS (r : Rd) (c : Int) : Rd × Bool :=
  if r.st = 0 then
    if 0 ≤ hexV c ∧ r.ln < 15 then ({ r with lf := r.lf * 16 + hexV c, ln := r.ln + 1 }, true)
    else if r.ln = 0 then (r, false)
    else if c = 59 then moreS { r with st := 1 }
    else expectS r c 13 2
  else if r.st = 1 then (if plainB c then moreS r else expectS r c 13 2)
  else if r.st = 2 then expectS r c 10 (sizedN r.lf)
  else if r.st = 4 then expectS r c 13 5
  else if r.st = 5 then expectS r c 10 0
  else if r.st = 6 then (if plainB c then
      if r.mn + 1 ≤ 64 then moreS { r with st := 7, mn := r.mn + 1 } else ({ r with st := 7, mn := r.mn + 1 }, false)
    else expectS r c 13 9)
  else if r.st = 7 then (if plainB c then moreS r else expectS r c 13 8)
  else if r.st = 8 then expectS r c 10 6
  else if r.st = 9 then expectS r c 10 10
  else (r, false)

/-- what a call of take does -/
def TakePost (w : World) (g : Nat) (q : Rd × Bool) (e : Ending) (w' : World) : Prop := e = .returned (.bool q.2) ∧ RdAt w' g q.1 ∧ Ch (· = g) w w'

theorem RdAt.below {w w' : World} {g : Nat} {r : Rd} (h : RdAt w g r) (hb : Below w.heap.size w w') : RdAt w' g r :=
  (hb.block g (lt_of_block h)).trans h

/-- expect's end -/
theorem expect_end {w0 w : World} {g : Nat} {r : Rd} (h : RdAt w g r) (hc : Ch (· = g) w0 w) (c want next : Int) {e : Ending} {w' : World} (he : e = .returned (.bool (c == want))) 
    (hw : (if c = want then (w.setCell ⟨g, 0, none⟩ (.int .i64 next)).setCell ⟨g, 1, none⟩ (.int .i64 0) else w) = w') : TakePost w0 g (expectS r c want next) e w' := by
  unfold expectS
  by_cases hcw : c = want
  · rw [if_pos hcw] at hw ⊢
    subst hw
    subst hcw
    exact ⟨by rw [he]; simp, (h.set0 next).set1 0, (hc.set (.inl rfl) _).set (.inl rfl) _⟩
  · rw [if_neg hcw] at hw ⊢
    subst hw
    exact ⟨by rw [he]; simp [hcw], h, hc⟩
theorem more_end {w0 w : World} {g : Nat} {r : Rd} (h : RdAt w g r) (hc : Ch (· = g) w0 w) {e : Ending} {w' : World} (he : e = .returned (.bool (decide (r.ln + 1 ≤ 200)))) 
    (hw : w.setCell ⟨g, 1, none⟩ (.int .i64 (r.ln + 1)) = w') : TakePost w0 g (moreS r) e w' := by
  subst hw
  exact ⟨he, h.set1 _, hc.set (.inl rfl) _⟩

set_option maxHeartbeats 400000 in
theorem take_2 (w : World) (g : Nat) (r : Rd) (hr : r.st = 2) (h : RdAt w g r) (c : Int) :
    Calls Tryd.prog 59 #[.pointer (some ⟨g, 0, none⟩), .int .u8 c] w (TakePost w g (expectS r c 10 (sizedN r.lf))) := by
  have c0 := h.cells.1
  rw [hr] at c0
  have Hr := Lib.hid hr
  clear hr
  have H := Lib.hid h
  clear h
  go_enter Tryd.func59, Tryd.ntmps59
  go_wp2_with fail
  refine (sized_calls _ _ _ H.out).mono ?_
  rintro e w' ⟨rfl, rfl⟩
  go_wp2_with fail
  refine (expect_calls _ _ _ H.out _ _ _).mono ?_
  rintro e w1 ⟨rfl, hw1⟩
  have HW := Lib.hid hw1
  clear hw1
  go_wp2_with fail
  go_ret
  exact expect_end H.out (Ch.refl _ _) _ _ _ rfl HW.out

set_option maxHeartbeats 400000 in
theorem take_4 (w : World) (g : Nat) (r : Rd) (hr : r.st = 4) (h : RdAt w g r) (c : Int) :
    Calls Tryd.prog 59 #[.pointer (some ⟨g, 0, none⟩), .int .u8 c] w (TakePost w g (expectS r c 13 5)) := by
  have c0 := h.cells.1
  rw [hr] at c0
  clear hr
  have H := Lib.hid h
  clear h
  go_enter Tryd.func59, Tryd.ntmps59
  go_wp2_with fail
  refine (expect_calls _ _ _ H.out _ _ _).mono ?_
  rintro e w1 ⟨rfl, hw1⟩
  have HW := Lib.hid hw1
  clear hw1
  go_wp2_with fail
  go_ret
  exact expect_end H.out (Ch.refl _ _) _ _ _ rfl HW.out

set_option maxHeartbeats 400000 in
theorem take_5 (w : World) (g : Nat) (r : Rd) (hr : r.st = 5) (h : RdAt w g r) (c : Int) :
    Calls Tryd.prog 59 #[.pointer (some ⟨g, 0, none⟩), .int .u8 c] w (TakePost w g (expectS r c 10 0)) := by
  have c0 := h.cells.1
  rw [hr] at c0
  clear hr
  have H := Lib.hid h
  clear h
  go_enter Tryd.func59, Tryd.ntmps59
  go_wp2_with fail
  refine (expect_calls _ _ _ H.out _ _ _).mono ?_
  rintro e w1 ⟨rfl, hw1⟩
  have HW := Lib.hid hw1
  clear hw1
  go_wp2_with fail
  go_ret
  exact expect_end H.out (Ch.refl _ _) _ _ _ rfl HW.out

set_option maxHeartbeats 400000 in
theorem take_8 (w : World) (g : Nat) (r : Rd) (hr : r.st = 8) (h : RdAt w g r) (c : Int) :
    Calls Tryd.prog 59 #[.pointer (some ⟨g, 0, none⟩), .int .u8 c] w (TakePost w g (expectS r c 10 6)) := by
  have c0 := h.cells.1
  rw [hr] at c0
  clear hr
  have H := Lib.hid h
  clear h
  go_enter Tryd.func59, Tryd.ntmps59
  go_wp2_with fail
  refine (expect_calls _ _ _ H.out _ _ _).mono ?_
  rintro e w1 ⟨rfl, hw1⟩
  have HW := Lib.hid hw1
  clear hw1
  go_wp2_with fail
  go_ret
  exact expect_end H.out (Ch.refl _ _) _ _ _ rfl HW.out

set_option maxHeartbeats 400000 in
theorem take_9 (w : World) (g : Nat) (r : Rd) (hr : r.st = 9) (h : RdAt w g r) (c : Int) :
    Calls Tryd.prog 59 #[.pointer (some ⟨g, 0, none⟩), .int .u8 c] w (TakePost w g (expectS r c 10 10)) := by
  have c0 := h.cells.1
  rw [hr] at c0
  clear hr
  have H := Lib.hid h
  clear h
  go_enter Tryd.func59, Tryd.ntmps59
  go_wp2_with fail
  refine (expect_calls _ _ _ H.out _ _ _).mono ?_
  rintro e w1 ⟨rfl, hw1⟩
  have HW := Lib.hid hw1
  clear hw1
  go_wp2_with fail
  go_ret
  exact expect_end H.out (Ch.refl _ _) _ _ _ rfl HW.out

set_option maxHeartbeats 400000 in
theorem take_1_y (w : World) (g : Nat) (r : Rd) (hr : r.st = 1) (hl : 0 ≤ r.ln ∧ r.ln ≤ 1000) (h : RdAt w g r) (c : Int) (hp : plainB c = true) :
    Calls Tryd.prog 59 #[.pointer (some ⟨g, 0, none⟩), .int .u8 c] w (TakePost w g (moreS r)) := by
  have c0 := h.cells.1
  rw [hr] at c0
  clear hr
  have H := Lib.hid h
  clear h
  have HL := Lib.hid hl
  clear hl
  go_enter Tryd.func59, Tryd.ntmps59
  go_wp2_with fail
  refine (plain_calls _ _).mono ?_
  rintro e w' ⟨rfl, rfl⟩
  go_wp2_with fail
  refine (more_calls _ _ _ H.out HL.out).mono ?_
  rintro e w1 ⟨rfl, hw1⟩
  have HW := Lib.hid hw1
  clear hw1
  go_wp2_with fail
  go_ret
  exact more_end H.out (Ch.refl _ _) rfl HW.out
set_option maxHeartbeats 400000 in
theorem take_1_n (w : World) (g : Nat) (r : Rd) (hr : r.st = 1) (h : RdAt w g r) (c : Int) (hp : plainB c = false) :
    Calls Tryd.prog 59 #[.pointer (some ⟨g, 0, none⟩), .int .u8 c] w (TakePost w g (expectS r c 13 2)) := by
  have c0 := h.cells.1
  rw [hr] at c0
  clear hr
  have H := Lib.hid h
  clear h
  go_enter Tryd.func59, Tryd.ntmps59
  go_wp2_with fail
  refine (plain_calls _ _).mono ?_
  rintro e w' ⟨rfl, rfl⟩
  go_wp2_with fail
  refine (expect_calls _ _ _ H.out _ _ _).mono ?_
  rintro e w1 ⟨rfl, hw1⟩
  have HW := Lib.hid hw1
  clear hw1
  go_wp2_with fail
  go_ret
  exact expect_end H.out (Ch.refl _ _) _ _ _ rfl HW.out

set_option maxHeartbeats 400000 in
theorem take_7_y (w : World) (g : Nat) (r : Rd) (hr : r.st = 7) (hl : 0 ≤ r.ln ∧ r.ln ≤ 1000) (h : RdAt w g r) (c : Int) (hp : plainB c = true) :
    Calls Tryd.prog 59 #[.pointer (some ⟨g, 0, none⟩), .int .u8 c] w (TakePost w g (moreS r)) := by
  have c0 := h.cells.1
  rw [hr] at c0
  clear hr
  have H := Lib.hid h
  clear h
  have HL := Lib.hid hl
  clear hl
  go_enter Tryd.func59, Tryd.ntmps59
  go_wp2_with fail
  refine (plain_calls _ _).mono ?_
  rintro e w' ⟨rfl, rfl⟩
  go_wp2_with fail
  refine (more_calls _ _ _ H.out HL.out).mono ?_
  rintro e w1 ⟨rfl, hw1⟩
  have HW := Lib.hid hw1
  clear hw1
  go_wp2_with fail
  go_ret
  exact more_end H.out (Ch.refl _ _) rfl HW.out
set_option maxHeartbeats 400000 in
theorem take_7_n (w : World) (g : Nat) (r : Rd) (hr : r.st = 7) (h : RdAt w g r) (c : Int) (hp : plainB c = false) :
    Calls Tryd.prog 59 #[.pointer (some ⟨g, 0, none⟩), .int .u8 c] w (TakePost w g (expectS r c 13 8)) := by
  have c0 := h.cells.1
  rw [hr] at c0
  clear hr
  have H := Lib.hid h
  clear h
  go_enter Tryd.func59, Tryd.ntmps59
  go_wp2_with fail
  refine (plain_calls _ _).mono ?_
  rintro e w' ⟨rfl, rfl⟩
  go_wp2_with fail
  refine (expect_calls _ _ _ H.out _ _ _).mono ?_
  rintro e w1 ⟨rfl, hw1⟩
  have HW := Lib.hid hw1
  clear hw1
  go_wp2_with fail
  go_ret
  exact expect_end H.out (Ch.refl _ _) _ _ _ rfl HW.out

set_option maxHeartbeats 400000 in
theorem take_6_n (w : World) (g : Nat) (r : Rd) (hr : r.st = 6) (h : RdAt w g r) (c : Int) (hp : plainB c = false) :
    Calls Tryd.prog 59 #[.pointer (some ⟨g, 0, none⟩), .int .u8 c] w (TakePost w g (expectS r c 13 9)) := by
  have c0 := h.cells.1
  rw [hr] at c0
  clear hr
  have H := Lib.hid h
  clear h
  go_enter Tryd.func59, Tryd.ntmps59
  go_wp2_with fail
  refine (plain_calls _ _).mono ?_
  rintro e w' ⟨rfl, rfl⟩
  go_wp2_with fail
  refine (expect_calls _ _ _ H.out _ _ _).mono ?_
  rintro e w1 ⟨rfl, hw1⟩
  have HW := Lib.hid hw1
  clear hw1
  go_wp2_with fail
  go_ret
  exact expect_end H.out (Ch.refl _ _) _ _ _ rfl HW.out

set_option maxHeartbeats 400000 in
theorem take_6_y (w : World) (g : Nat) (r : Rd) (hr : r.st = 6) (hl : 0 ≤ r.ln ∧ r.ln ≤ 1000) (hm : 0 ≤ r.mn ∧ r.mn ≤ 1000) (hm2 : r.mn + 1 ≤ 64) (h : RdAt w g r) (c : Int) (hp : plainB c = true) :
    Calls Tryd.prog 59 #[.pointer (some ⟨g, 0, none⟩), .int .u8 c] w (TakePost w g (moreS { r with st := 7, mn := r.mn + 1 })) := by
  obtain ⟨c0, -, c2, -, f0, -, f2, -⟩ := h.cells
  rw [hr] at c0
  clear hr
  obtain ⟨m0, m1⟩ := hm
  have H := Lib.hid ((h.set0 7).set2 (r.mn + 1))
  clear h
  have HL := Lib.hid hl
  clear hl
  go_enter Tryd.func59, Tryd.ntmps59
  go_wp2_with fail
  refine (plain_calls _ _).mono ?_
  rintro e w' ⟨rfl, rfl⟩
  go_wp2_with fail
  refine (more_calls _ _ _ H.out HL.out).mono ?_
  rintro e w1 ⟨rfl, hw1⟩
  have HW := Lib.hid hw1
  clear hw1
  go_wp2_with fail
  go_ret
  exact more_end H.out (ch_set2 _ _ _ _ _ _) rfl HW.out
set_option maxHeartbeats 400000 in
theorem take_6_f (w : World) (g : Nat) (r : Rd) (hr : r.st = 6) (hm : 0 ≤ r.mn ∧ r.mn ≤ 1000) (hm2 : 64 < r.mn + 1) (h : RdAt w g r) (c : Int) (hp : plainB c = true) :
    Calls Tryd.prog 59 #[.pointer (some ⟨g, 0, none⟩), .int .u8 c] w (TakePost w g ({ r with st := 7, mn := r.mn + 1 }, false)) := by
  obtain ⟨c0, -, c2, -, f0, -, f2, -⟩ := h.cells
  rw [hr] at c0
  clear hr
  obtain ⟨m0, m1⟩ := hm
  have H := Lib.hid ((h.set0 7).set2 (r.mn + 1))
  clear h
  go_enter Tryd.func59, Tryd.ntmps59
  go_wp2_with fail
  refine (plain_calls _ _).mono ?_
  rintro e w' ⟨rfl, rfl⟩
  go_wp2_with fail
  go_ret
  exact ⟨rfl, H.out, ch_set2 _ _ _ _ _ _⟩

set_option maxHeartbeats 400000 in
theorem take_0_h (w : World) (g : Nat) (r : Rd) (hr : r.st = 0) (hl : 0 ≤ r.ln ∧ r.ln ≤ 1000) (hl2 : r.ln < 15) (hf : 0 ≤ r.lf ∧ r.lf < 72057594037927936) (h : RdAt w g r) (hE : ErrVar 0 w) (c : Int) (hc : 0 ≤ c ∧ c < 256) (hx : 0 ≤ hexV c) :
    Calls Tryd.prog 59 #[.pointer (some ⟨g, 0, none⟩), .int .u8 c] w (TakePost w g ({ r with lf := r.lf * 16 + hexV c, ln := r.ln + 1 }, true)) := by
  have c0 := h.cells.1
  rw [hr] at c0
  clear hr
  have H := Lib.hid h
  clear h
  obtain ⟨l0, l1⟩ := hl
  obtain ⟨f0, f1⟩ := hf
  have hx2 : hexV c ≤ 15 := by unfold hexV; split; omega; split; omega; split <;> omega
  have HX := hex_calls c hc.1 hc.2 w hE
  rw [if_neg (by omega), show decide (0 ≤ hexV c) = true from by simp; omega] at HX
  generalize hexV c = n at *
  have HX' := Lib.hid HX
  clear HX hc hE
  go_enter Tryd.func59, Tryd.ntmps59
  go_wp2_with fail
  refine HX'.out.mono ?_
  rintro e w1 ⟨rfl, hb⟩
  have h1 := H.out.below hb
  obtain ⟨-, c1, -, c3, -, g1, -, g3⟩ := h1.cells
  have HC := Lib.hid ((Ch.refl (· = g) w).below hb)
  have H1 := Lib.hid h1
  clear hb h1 c0
  go_wp2_with fail
  go_ret
  exact ⟨rfl, (H1.out.set3 _).set1 _, Ch.set (S := (· = g)) (Ch.set (S := (· = g)) HC.out (.inl rfl) _) (.inl rfl) _⟩

set_option maxHeartbeats 400000 in
theorem take_0_e (w : World) (g : Nat) (r : Rd) (hr : r.st = 0) (hl0 : r.ln = 0) (h : RdAt w g r) (hE : ErrVar 0 w) (c : Int) (hc : 0 ≤ c ∧ c < 256) (hx : hexV c < 0) :
    Calls Tryd.prog 59 #[.pointer (some ⟨g, 0, none⟩), .int .u8 c] w (TakePost w g (r, false)) := by
  have c0 := h.cells.1
  rw [hr] at c0
  have H := Lib.hid h
  clear h
  have HL := Lib.hid hl0
  clear hl0 hr
  have HX := hex_calls c hc.1 hc.2 w hE
  rw [if_pos (by omega), show decide (0 ≤ hexV c) = false from by simp; omega] at HX
  have HX' := Lib.hid HX
  clear HX hc hE hx
  go_enter Tryd.func59, Tryd.ntmps59
  go_wp2_with fail
  refine HX'.out.mono ?_
  rintro e w1 ⟨rfl, hb⟩
  have h1 := H.out.below hb
  have c1 := h1.cells.2.1
  rw [HL.out] at c1
  have HC := Lib.hid ((Ch.refl (· = g) w).below hb)
  have H1 := Lib.hid h1
  clear hb h1 c0
  go_wp2_with fail
  go_ret
  exact ⟨rfl, H1.out, HC.out⟩

set_option maxHeartbeats 400000 in
theorem take_0_s (w : World) (g : Nat) (r : Rd) (hr : r.st = 0) (hl : 1 ≤ r.ln ∧ r.ln ≤ 1000) (h : RdAt w g r) (_ : ErrVar 0 w) (n : Int) (b : Bool) (hb : b = false ∨ 15 ≤ r.ln)
    (HX : Calls Tryd.prog 75 #[.int .u8 59] w fun e w' => e = .returned (.tuple #[.int .i64 n, .bool b]) ∧ Below w.heap.size w w') :
    Calls Tryd.prog 59 #[.pointer (some ⟨g, 0, none⟩), .int .u8 59] w (TakePost w g (moreS { r with st := 1 })) := by
  have c0 := h.cells.1
  rw [hr] at c0
  have H := Lib.hid h
  clear h hr
  obtain ⟨l0, l1⟩ := hl
  have HX' := Lib.hid HX
  clear HX
  rcases hb with rfl | hb
  all_goals
    go_enter Tryd.func59, Tryd.ntmps59
    go_wp2_with fail
    refine HX'.out.mono ?_
    rintro e w1 ⟨rfl, hb⟩
    have h1 := H.out.below hb
    have c1 := h1.cells.2.1
    have c0' := h1.cells.1
    have f0 := h1.cells.2.2.2.2.1
    have HC := Lib.hid ((Ch.refl (· = g) w).below hb)
    have H1 := Lib.hid (h1.set0 1)
    clear hb h1 c0
    go_wp2_with fail
  all_goals
    refine (more_calls _ _ _ H1.out (show 0 ≤ r.ln ∧ r.ln ≤ 1000 from ⟨by omega, l1⟩)).mono ?_
    rintro e w2 ⟨rfl, hw1⟩
    have HW := Lib.hid hw1
    clear hw1
    go_wp2_with fail
    go_ret
    exact more_end H1.out (Ch.set (S := (· = g)) HC.out (.inl rfl) _) rfl HW.out

set_option maxHeartbeats 400000 in
theorem take_0_x (w : World) (g : Nat) (r : Rd) (hr : r.st = 0) (hl : 1 ≤ r.ln ∧ r.ln ≤ 1000) (h : RdAt w g r) (n : Int) (b : Bool) (c : Int) (hb : b = false ∨ 15 ≤ r.ln) (hc : (c == 59) = false)
    (HX : Calls Tryd.prog 75 #[.int .u8 c] w fun e w' => e = .returned (.tuple #[.int .i64 n, .bool b]) ∧ Below w.heap.size w w') :
    Calls Tryd.prog 59 #[.pointer (some ⟨g, 0, none⟩), .int .u8 c] w (TakePost w g (expectS r c 13 2)) := by
  have c0 := h.cells.1
  rw [hr] at c0
  have H := Lib.hid h
  clear h hr
  obtain ⟨l0, l1⟩ := hl
  have HX' := Lib.hid HX
  clear HX
  rcases hb with rfl | hb
  all_goals
    go_enter Tryd.func59, Tryd.ntmps59
    go_wp2_with fail
    refine HX'.out.mono ?_
    rintro e w1 ⟨rfl, hb⟩
    have h1 := H.out.below hb
    have c1 := h1.cells.2.1
    have c0' := h1.cells.1
    have f0 := h1.cells.2.2.2.2.1
    have HC := Lib.hid ((Ch.refl (· = g) w).below hb)
    have H1 := Lib.hid h1
    clear hb h1 c0
    go_wp2_with fail
  all_goals
    refine (expect_calls _ _ _ H1.out _ _ _).mono ?_
    rintro e w2 ⟨rfl, hw1⟩
    have HW := Lib.hid hw1
    clear hw1
    go_wp2_with fail
    go_ret
    exact expect_end H1.out HC.out _ _ _ rfl HW.out

set_option maxHeartbeats 400000 in
theorem take_z (w : World) (g : Nat) (r : Rd) (hr : r.st = 3 ∨ r.st = 10 ∨ r.st = 11) (h : RdAt w g r) (c : Int) :
    Calls Tryd.prog 59 #[.pointer (some ⟨g, 0, none⟩), .int .u8 c] w (TakePost w g (r, false)) := by
  have c0 := h.cells.1
  have H := Lib.hid h
  clear h
  rcases hr with hr | hr | hr
  all_goals
    rw [hr] at c0
    clear hr
    go_enter Tryd.func59, Tryd.ntmps59
    go_wp2_with fail
    go_ret
    exact ⟨rfl, H.out, Ch.refl _ _⟩

/-- what is so of a reader at every time -/
structure RdOk (r : Rd) : Prop where
  st : 0 ≤ r.st ∧ r.st ≤ 11
  ln : 0 ≤ r.ln ∧ r.ln ≤ 250
  mn : 0 ≤ r.mn ∧ r.mn ≤ 65
  lf : 0 ≤ r.lf ∧ r.lf < 1152921504606846976
  lf0 : r.st = 0 → r.ln < 15 → r.lf < 72057594037927936

theorem take_calls (w : World) (g : Nat) (r : Rd) (ok : RdOk r) (h : RdAt w g r) (hE : ErrVar 0 w) (c : Int) (hc : 0 ≤ c ∧ c < 256) :
    Calls Tryd.prog 59 #[.pointer (some ⟨g, 0, none⟩), .int .u8 c] w (TakePost w g (takeS r c)) := by
  obtain ⟨hst, hln, hmn, hlf, hlf0⟩ := ok
  have hln' : 0 ≤ r.ln ∧ r.ln ≤ 1000 := by omega
  have hmn' : 0 ≤ r.mn ∧ r.mn ≤ 1000 := by omega
  unfold takeS
  by_cases s0 : r.st = 0
  · rw [if_pos s0]
    by_cases hx : 0 ≤ hexV c ∧ r.ln < 15
    · rw [if_pos hx]
      exact take_0_h w g r s0 hln' hx.2 ⟨hlf.1, hlf0 s0 hx.2⟩ h hE c hc hx.1
    · rw [if_neg hx]
      by_cases hl0 : r.ln = 0
      · rw [if_pos hl0]
        exact take_0_e w g r s0 hl0 h hE c hc (by omega)
      · rw [if_neg hl0]
        have hb : decide (0 ≤ hexV c) = false ∨ 15 ≤ r.ln := by
          by_cases h15 : 15 ≤ r.ln
          · exact .inr h15
          · exact .inl (by simp; omega)
        by_cases h59 : c = 59
        · subst h59
          rw [if_pos rfl]
          exact take_0_s w g r s0 (by omega) h hE _ _ hb (hex_calls 59 hc.1 hc.2 w hE)
        · rw [if_neg h59]
          exact take_0_x w g r s0 (by omega) h _ _ c hb (by simpa using h59) (hex_calls c hc.1 hc.2 w hE)
  rw [if_neg s0]
  by_cases s1 : r.st = 1
  · rw [if_pos s1]
    by_cases hp : plainB c = true
    · rw [if_pos hp]; exact take_1_y w g r s1 hln' h c hp
    · rw [if_neg hp]; exact take_1_n w g r s1 h c (by simpa using hp)
  rw [if_neg s1]
  by_cases s2 : r.st = 2
  · rw [if_pos s2]; exact take_2 w g r s2 h c
  rw [if_neg s2]
  by_cases s4 : r.st = 4
  · rw [if_pos s4]; exact take_4 w g r s4 h c
  rw [if_neg s4]
  by_cases s5 : r.st = 5
  · rw [if_pos s5]; exact take_5 w g r s5 h c
  rw [if_neg s5]
  by_cases s6 : r.st = 6
  · rw [if_pos s6]
    by_cases hp : plainB c = true
    · rw [if_pos hp]
      by_cases h64 : r.mn + 1 ≤ 64
      · rw [if_pos h64]; exact take_6_y w g r s6 hln' hmn' h64 h c hp
      · rw [if_neg h64]; exact take_6_f w g r s6 hmn' (by omega) h c hp
    · rw [if_neg hp]; exact take_6_n w g r s6 h c (by simpa using hp)
  rw [if_neg s6]
  by_cases s7 : r.st = 7
  · rw [if_pos s7]
    by_cases hp : plainB c = true
    · rw [if_pos hp]; exact take_7_y w g r s7 hln' h c hp
    · rw [if_neg hp]; exact take_7_n w g r s7 h c (by simpa using hp)
  rw [if_neg s7]
  by_cases s8 : r.st = 8
  · rw [if_pos s8]; exact take_8 w g r s8 h c
  rw [if_neg s8]
  by_cases s9 : r.st = 9
  · rw [if_pos s9]; exact take_9 w g r s9 h c
  rw [if_neg s9]
  exact take_z w g r (by omega) h c

end Go.Proofs.YteneioapchhehaaDoor

/- Package chunk: a reader's Take, byte by byte, in plain Lean: what is so of a reader at every time, and the loop. -/
namespace Go.Proofs.YteneioapchhehaaDoor
open Go.RowKit

/-- a byte of a chunk -/
def dataS (r : Rd) : Rd := { r with lf := r.lf - 1, st := if r.lf - 1 = 0 then 4 else 3 }

/-- bytes, one behind the other -/
def runA : Rd → List UInt8 → List UInt8 → Nat → Rd × List UInt8 × Nat × Bool
  | r, [], out, k => (r, out, k, true)
  | r, c :: l, out, k =>
    if r.st = 10 then (r, out, k, true)
    else if r.st = 3 then runA (dataS r) l (out ++ [c]) (k + 1)
    else if (takeS r c.toNat).2 = true then runA (takeS r c.toNat).1 l out (k + 1)
    else ({ (takeS r c.toNat).1 with st := 11 }, [], k, false)

/-- what is so of a reader at every time -/
structure RdI (r : Rd) : Prop where
  st : 0 ≤ r.st ∧ r.st ≤ 11
  ln : 0 ≤ r.ln ∧ r.ln ≤ 250
  mn : 0 ≤ r.mn ∧ r.mn ≤ 65
  lf : 0 ≤ r.lf ∧ r.lf < 1152921504606846976
  s0 : r.st = 0 → r.ln ≤ 15 ∧ r.lf < 16 ^ r.ln.toNat
  s3 : r.st = 3 → 1 ≤ r.lf
  s4 : r.st = 4 ∨ r.st = 5 → r.lf = 0
  sl : r.st ≤ 10 → r.ln ≤ 200
  sm : r.st ≤ 10 → r.mn ≤ 64

theorem pow16_lt (n : Nat) (h : n < 15) : (16 : Int) ^ n ≤ 72057594037927936 := by
  have h1 : (16 : Nat) ^ n ≤ 16 ^ 14 := Nat.pow_le_pow_right (by omega) (by omega)
  have h2 : ((16 ^ n : Nat) : Int) ≤ ((16 ^ 14 : Nat) : Int) := Int.ofNat_le.2 h1
  simpa using h2

theorem RdI.ok {r : Rd} (h : RdI r) : RdOk r :=
  ⟨h.st, h.ln, h.mn, h.lf, fun h0 h15 => by
    have := (h.s0 h0).2
    have h1 := pow16_lt r.ln.toNat (by have := h.ln; omega)
    omega⟩

theorem hexV_lt (c : Int) : hexV c ≤ 15 := by
  unfold hexV
  split
  · omega
  · split
    · omega
    · split <;> omega

theorem RdI.zero : RdI ⟨0, 0, 0, 0⟩ := by
  constructor <;> simp

theorem pow16_succ (n : Nat) : (16 : Int) ^ (n + 1) = 16 ^ n * 16 := Int.pow_succ 16 n

theorem RdI.expect {r : Rd} (h : RdI r) (c want next : Int) (hn : 0 ≤ next ∧ next ≤ 10) (h0 : next = 0 → r.lf = 0) (h3 : next = 3 → 1 ≤ r.lf) (h4 : next = 4 ∨ next = 5 → r.lf = 0) (hs : r.st ≤ 10) : RdI (expectS r c want next).1 := by
  unfold expectS
  split
  · have hm := h.sm hs
    refine ⟨by dsimp only; omega, by dsimp only; omega, h.mn, h.lf, fun hx => ?_, h3, h4, fun _ => by dsimp only; omega, fun _ => hm⟩
    dsimp only at hx ⊢
    have := h0 hx
    simp [this]
  · exact h

theorem RdI.more {r : Rd} (h : RdI r) (hs : r.st = 1 ∨ r.st = 7) (hb : (moreS r).2 = true) : RdI (moreS r).1 := by
  unfold moreS at hb ⊢
  simp only [decide_eq_true_eq] at hb
  have hl := h.ln
  have hm := h.sm (by omega)
  exact ⟨h.st, by dsimp only; omega, h.mn, h.lf, fun hx => absurd hx (by dsimp only; omega), h.s3, h.s4, fun _ => by dsimp only; omega, fun _ => hm⟩

/-- a byte that may come leaves a reader right -/
theorem RdI.take {r : Rd} (h : RdI r) (c : Int) (hb : (takeS r c).2 = true) : RdI (takeS r c).1 := by
  have hst := h.st
  unfold takeS at hb ⊢
  split
  · rename_i s0
    rw [if_pos s0] at hb
    have hs0 := h.s0 s0
    have hln := h.ln
    split
    · rename_i hx
      have h15 := hexV_lt c
      have hp : (16 : Int) ^ (r.ln + 1).toNat = 16 ^ r.ln.toNat * 16 := by
        rw [show (r.ln + 1).toNat = r.ln.toNat + 1 from by omega]; exact pow16_succ _
      have hq := pow16_lt r.ln.toNat (by omega)
      have hlf := h.lf
      refine ⟨h.st, by dsimp only; omega, h.mn, ⟨by dsimp only; omega, by dsimp only; omega⟩, fun _ => ⟨by dsimp only; omega, by dsimp only; rw [hp]; omega⟩, fun hx => absurd hx (by dsimp only; omega), fun hx => absurd hx (by dsimp only; omega), fun _ => by dsimp only; omega, fun hx => h.sm hx⟩
    · rename_i hx
      rw [if_neg hx] at hb
      split
      · rename_i h0; rw [if_pos h0] at hb; cases hb
      · rename_i h0
        rw [if_neg h0] at hb
        split
        · rename_i h59
          rw [if_pos h59] at hb
          refine RdI.more (r := { r with st := 1 }) ?_ (.inl rfl) hb
          exact ⟨by dsimp only; omega, h.ln, h.mn, h.lf, fun hx => absurd hx (by dsimp only; omega), fun hx => absurd hx (by dsimp only; omega), fun hx => absurd hx (by dsimp only; omega), fun _ => h.sl (by omega), fun _ => h.sm (by omega)⟩
        · exact h.expect c 13 2 (by omega) (by omega) (by omega) (by omega) (by omega)
  rename_i s0
  rw [if_neg s0] at hb
  split
  · rename_i s1
    rw [if_pos s1] at hb
    split
    · rename_i hp; rw [if_pos hp] at hb; exact h.more (.inl s1) hb
    · exact h.expect c 13 2 (by omega) (by omega) (by omega) (by omega) (by omega)
  rename_i s1
  rw [if_neg s1] at hb
  split
  · rename_i s2
    have hlf := h.lf
    refine h.expect c 10 _ ?_ ?_ ?_ ?_ (by omega) <;> unfold sizedN <;> split <;> omega
  rename_i s2
  rw [if_neg s2] at hb
  split
  · rename_i s4; exact h.expect c 13 5 (by omega) (by omega) (by omega) (fun _ => h.s4 (.inl s4)) (by omega)
  rename_i s4
  rw [if_neg s4] at hb
  split
  · rename_i s5; exact h.expect c 10 0 (by omega) (fun _ => h.s4 (.inr s5)) (by omega) (by omega) (by omega)
  rename_i s5
  rw [if_neg s5] at hb
  split
  · rename_i s6
    rw [if_pos s6] at hb
    split
    · rename_i hp
      rw [if_pos hp] at hb
      split
      · rename_i h64
        rw [if_pos h64] at hb
        refine RdI.more (r := { r with st := 7, mn := r.mn + 1 }) ?_ (.inr rfl) hb
        have hm := h.mn
        exact ⟨by dsimp only; omega, h.ln, by dsimp only; omega, h.lf, fun hx => absurd hx (by dsimp only; omega), fun hx => absurd hx (by dsimp only; omega), fun hx => absurd hx (by dsimp only; omega), fun _ => h.sl (by omega), fun _ => h64⟩
      · rename_i h64; rw [if_neg h64] at hb; cases hb
    · exact h.expect c 13 9 (by omega) (by omega) (by omega) (by omega) (by omega)
  rename_i s6
  rw [if_neg s6] at hb
  split
  · rename_i s7
    rw [if_pos s7] at hb
    split
    · rename_i hp; rw [if_pos hp] at hb; exact h.more (.inr s7) hb
    · exact h.expect c 13 8 (by omega) (by omega) (by omega) (by omega) (by omega)
  rename_i s7
  rw [if_neg s7] at hb
  split
  · exact h.expect c 10 6 (by omega) (by omega) (by omega) (by omega) (by omega)
  rename_i s8
  rw [if_neg s8] at hb
  split
  · exact h.expect c 10 10 (by omega) (by omega) (by omega) (by omega) (by omega)
  rename_i s9
  rw [if_neg s9] at hb
  cases hb

/-- bounds, whatever comes -/
def Bd (x : Rd × Bool) : Prop := x.1.ln ≤ 250 ∧ 0 ≤ x.1.ln ∧ 0 ≤ x.1.mn ∧ x.1.mn ≤ 65 ∧ 0 ≤ x.1.lf ∧ x.1.lf < 1152921504606846976
theorem Bd.ite {p : Prop} [Decidable p] {a b : Rd × Bool} (ha : p → Bd a) (hb : ¬ p → Bd b) : Bd (if p then a else b) := by
  by_cases h : p
  · rw [if_pos h]; exact ha h
  · rw [if_neg h]; exact hb h
theorem Bd.expect {r : Rd} (h : RdI r) (a b n : Int) : Bd (expectS r a b n) := by
  have h1 := h.ln
  have h2 := h.mn
  have h3 := h.lf
  exact Bd.ite (fun _ => ⟨by dsimp only; omega, by dsimp only; omega, h2.1, h2.2, h3.1, h3.2⟩) (fun _ => ⟨h1.2, h1.1, h2.1, h2.2, h3.1, h3.2⟩)
/-- a byte that may not come: the reader is broken -/
theorem takeS_keeps (r : Rd) (c : Int) (h : RdI r) : Bd (takeS r c) := by
  have h1 := h.ln
  have h2 := h.mn
  have h3 := h.lf
  have hl := h.sl
  have hm := h.sm
  have hh := hexV_lt c
  unfold takeS
  refine Bd.ite (fun s0 => Bd.ite (fun hx => ?_) (fun hx => Bd.ite (fun _ => ?_) (fun _ => Bd.ite (fun _ => ?_) (fun _ => Bd.expect h c 13 2)))) (fun s0 => ?_)
  · have hs0 := h.s0 s0
    have hq := pow16_lt r.ln.toNat (by omega)
    exact ⟨by dsimp only; omega, by dsimp only; omega, h2.1, h2.2, by dsimp only; omega, by dsimp only; omega⟩
  · exact ⟨h1.2, h1.1, h2.1, h2.2, h3.1, h3.2⟩
  · exact ⟨by dsimp only [moreS]; omega, by dsimp only [moreS]; omega, h2.1, h2.2, h3.1, h3.2⟩
  refine Bd.ite (fun s1 => Bd.ite (fun _ => ?_) (fun _ => Bd.expect h c 13 2)) (fun s1 => ?_)
  · exact ⟨by dsimp only [moreS]; omega, by dsimp only [moreS]; omega, h2.1, h2.2, h3.1, h3.2⟩
  refine Bd.ite (fun _ => Bd.expect h _ _ _) (fun _ => Bd.ite (fun _ => Bd.expect h _ _ _) (fun _ => Bd.ite (fun _ => Bd.expect h _ _ _) (fun _ => ?_)))
  refine Bd.ite (fun s6 => Bd.ite (fun _ => Bd.ite (fun _ => ?_) (fun _ => ?_)) (fun _ => Bd.expect h _ _ _)) (fun s6 => ?_)
  · exact ⟨by dsimp only [moreS]; omega, by dsimp only [moreS]; omega, by dsimp only [moreS]; omega, by dsimp only [moreS]; omega, h3.1, h3.2⟩
  · exact ⟨by dsimp only; omega, by dsimp only; omega, by dsimp only; omega, by dsimp only; omega, h3.1, h3.2⟩
  refine Bd.ite (fun s7 => Bd.ite (fun _ => ?_) (fun _ => Bd.expect h _ _ _)) (fun s7 => Bd.ite (fun _ => Bd.expect h _ _ _) (fun _ => Bd.ite (fun _ => Bd.expect h _ _ _) (fun _ => ?_)))
  · exact ⟨by dsimp only [moreS]; omega, by dsimp only [moreS]; omega, h2.1, h2.2, h3.1, h3.2⟩
  · exact ⟨h1.2, h1.1, h2.1, h2.2, h3.1, h3.2⟩

theorem RdI.broken {r : Rd} (h : RdI r) (c : Int) : RdI { (takeS r c).1 with st := 11 } := by
  obtain ⟨a, b, c', d, e, f⟩ := takeS_keeps r c h
  exact ⟨by dsimp only; omega, ⟨b, a⟩, ⟨c', d⟩, ⟨e, f⟩, fun hx => absurd hx (by dsimp only; omega), fun hx => absurd hx (by dsimp only; omega), fun hx => absurd hx (by dsimp only; omega), fun hx => absurd hx (by dsimp only; omega), fun hx => absurd hx (by dsimp only; omega)⟩

theorem RdI.data {r : Rd} (h : RdI r) (hs : r.st = 3) : RdI (dataS r) := by
  have h3 := h.s3 hs
  have hl := h.sl (by omega)
  have hm := h.sm (by omega)
  have hlf := h.lf
  unfold dataS
  split
  · exact ⟨by dsimp only; omega, h.ln, h.mn, by dsimp only; omega, fun hx => absurd hx (by dsimp only; omega), fun hx => absurd hx (by dsimp only; omega), fun _ => by dsimp only; omega, fun _ => hl, fun _ => hm⟩
  · exact ⟨by dsimp only; omega, h.ln, h.mn, by dsimp only; omega, fun hx => absurd hx (by dsimp only; omega), fun _ => by dsimp only; omega, fun hx => absurd hx (by dsimp only; omega), fun _ => hl, fun _ => hm⟩

/-- so many bytes of a chunk at once -/
theorem runA_data (n : Nat) : ∀ (r : Rd) (l out : List UInt8) (k : Nat), r.st = 3 → 1 ≤ n → (n : Int) ≤ r.lf → n ≤ l.length →
    runA r l out k = runA { r with lf := r.lf - n, st := if r.lf - n = 0 then 4 else 3 } (l.drop n) (out ++ l.take n) (k + n) := by
  induction n with
  | zero => intro r l out k _ h; omega
  | succ n ih =>
    intro r l out k hs _ hn hl
    cases l with
    | nil => simp at hl
    | cons c l =>
      simp only [List.length_cons] at hl
      rw [runA, if_neg (by omega), if_pos hs]
      by_cases h0 : n = 0
      · subst h0
        simp [dataS]
      · have hne : ¬ (r.lf - 1 = 0) := by omega
        rw [ih (dataS r) l (out ++ [c]) (k + 1) (by unfold dataS; rw [if_neg hne]) (by omega) (by unfold dataS; dsimp only; omega) (by omega)]
        unfold dataS
        simp only [List.drop_succ_cons, List.take_succ_cons, List.append_assoc, List.singleton_append]
        rw [show r.lf - 1 - (n : Int) = r.lf - ((n + 1 : Nat) : Int) from by omega, show k + 1 + n = k + (n + 1) from by omega]

end Go.Proofs.YteneioapchhehaaDoor

/- Package chunk: the walk of a reader's Take. -/
namespace Go.Proofs.YteneioapchhehaaDoor
open Go.RowKit

/-- what Take does -/
def takeA (r : Rd) (l : List UInt8) : Rd × List UInt8 × Nat × Bool := if r.st = 11 then (r, [], 0, false) else runA r l [] 0
def errN (b : Bool) : Int := if b then 0 else 2

def TkPost (w : World) (g : Nat) (q : Rd × List UInt8 × Nat × Bool) (e : Ending) (w' : World) : Prop :=
  ∃ ov, e = .returned (.tuple #[ov, .int .i64 q.2.2.1, .int .i64 (errN q.2.2.2)]) ∧ Ow w' w.heap.size ov q.2.1 ∧ RdAt w' g q.1 ∧ Ch (· = g) w w'

set_option maxHeartbeats 400000 in
theorem Take_broken (w : World) (g : Nat) (r : Rd) (hr : r.st = 11) (h : RdAt w g r) (v : Value) :
    Calls Tryd.prog 42 #[.pointer (some ⟨g, 0, none⟩), v] w (TkPost w g (r, [], 0, false)) := by
  have c0 := h.cells.1
  rw [hr] at c0
  clear hr
  have H := Lib.hid h
  clear h
  go_enter Tryd.func42, Tryd.ntmps42
  go_wp2_with fail
  go_ret3
  exact ⟨_, rfl, Ow.nil _ _, H.out, Ch.refl _ _⟩

theorem RdAt.ne {w : World} {g : Nat} {r : Rd} (h : RdAt w g r) {ao : Option Addr} {l : List UInt8} (hb : Bs w ao l) : ∀ b off, ao = some ⟨b, off, none⟩ → 0 < l.length → ¬ b = g := by
  rintro b off rfl hl
  refine hb.ne hl h ?_
  intro i k x
  rcases i with _ | _ | _ | _ | i <;> simp
  all_goals (rintro rfl; simp)

theorem RdI.take_st {r : Rd} (h : RdI r) (c : Int) (hr : r.st ≤ 10) (_ : (takeS r c).2 = true) : (takeS r c).1.st ≤ 10 := by
  have h1 := h.st
  have he : ∀ a b n, n ≤ 10 → (expectS r a b n).1.st ≤ 10 := by
    intro a b n hn; unfold expectS; split
    · exact hn
    · exact hr
  have hs : sizedN r.lf ≤ 10 := by unfold sizedN; split <;> omega
  unfold takeS
  repeat' split
  all_goals first
    | exact hr
    | (exact he _ _ _ (by omega))
    | (dsimp only [moreS]; omega)

theorem RdAt.grown {w w' : World} {g : Nat} {r : Rd} {row : Option Nat} (h : RdAt w g r) (hg : w.grownBy w' row) (hne : ∀ k, row = some k → k ≠ g) : RdAt w' g r :=
  (hg.block g (lt_of_block h) (fun e => hne g e.symm rfl)).trans h
theorem Ch.own {S : Nat → Prop} {a w w' : World} {B : Nat} {v : Value} {l : List UInt8} (h : Ch S a w) (ho : Ow w B v l) (hg : w.grownBy w' v.ownBlock) (hB : a.heap.size ≤ B) : Ch S a w' :=
  h.grown hg fun k hk => .inr (Nat.le_trans hB (ho.ge k hk).1)

theorem RdI.dataN {r : Rd} (h : RdI r) (hs : r.st = 3) (m : Nat) (hm1 : 1 ≤ m) (hm : (m : Int) ≤ r.lf) : RdI { r with lf := r.lf - m, st := if r.lf - m = 0 then 4 else 3 } := by
  have hl := h.sl (by omega)
  have hmn := h.sm (by omega)
  have hlf := h.lf
  split
  · exact ⟨by dsimp only; omega, h.ln, h.mn, by dsimp only; omega, fun hx => absurd hx (by dsimp only; omega), fun hx => absurd hx (by dsimp only; omega), fun _ => by dsimp only; omega, fun _ => hl, fun _ => hmn⟩
  · exact ⟨by dsimp only; omega, h.ln, h.mn, by dsimp only; omega, fun hx => absurd hx (by dsimp only; omega), fun _ => by dsimp only; omega, fun hx => absurd hx (by dsimp only; omega), fun _ => hl, fun _ => hmn⟩

/-- the loop's relation -/
def TkRel (w : World) (g : Nat) (l : List UInt8) (q : Rd × List UInt8 × Nat × Bool) (k : Nat) (vo : Value) (wr : World) : Prop :=
  ∃ r out, k ≤ l.length ∧ RdI r ∧ r.st ≤ 10 ∧ RdAt wr g r ∧ Ow wr w.heap.size vo out ∧ out.length ≤ k ∧ Ch (· = g) w wr ∧ runA r (l.drop k) out k = q

set_option maxHeartbeats 1000000 in
set_option maxRecDepth 100000 in
theorem Take_run (w : World) (g : Nat) (r : Rd) (hi : RdI r) (hr : r.st ≤ 10) (h : RdAt w g r) (hE : ErrVar 0 w) (hg : 0 < g) (ao : Option Addr) (l : List UInt8) (hl : l.length ≤ 1099511627776) (c : Nat) (hc : l.length ≤ c) (hb : Bs w ao l) :
    Calls Tryd.prog 42 #[.pointer (some ⟨g, 0, none⟩), .slice ao l.length c] w (TkPost w g (runA r l [] 0)) := by
  have c0 := h.cells.1
  have hne : (r.st == 11) = false := by simp; omega
  have HR := Lib.hid (⟨r, [], Nat.zero_le _, hi, hr, h, Ow.nil _ _, Nat.le_refl _, Ch.refl _ _, by rw [List.drop_zero]⟩ : TkRel w g l (runA r l [] 0) 0 (.slice none 0 0) w)
  generalize runA r l [] 0 = q at *
  have HN := Lib.hid (h.ne hb)
  have hgs := lt_of_block h
  have HB := Lib.hid hb
  have HE := Lib.hid hE
  clear h hi hr hb hE
  go_enter Tryd.func42, Tryd.ntmps42
  go_wp2_with fail
  clear c0 hne
  go_loopw [7, 8] (fun vo va wr => ∃ k : Nat, va = .int .i64 k ∧ TkRel w g l q k vo wr) (fun _ va _ => l.length - (intOf va).toNat)
  case atStart => exact ⟨0, rfl, HR.out⟩
  case round =>
    obtain ⟨k, rfl, r1, out, hk, hi, hr, h, ho, hol, hch, hq⟩ := hrel
    clear HR
    have c0 := h.cells.1
    by_cases hkl : k < l.length
    · obtain ⟨b, off, hao⟩ := HB.out.some_of (by omega)
      subst hao
      have hbs := HB.out.ch hch HN.out
      by_cases h10 : r1.st = 10
      · rw [h10] at c0
        have Hq : Hid (q = (r1, out, k, true)) := Lib.hid (by rw [← hq, List.drop_eq_getElem_cons hkl, runA, if_pos h10])
        have HO := Lib.hid ho
        have HH := Lib.hid h
        have HC := Lib.hid hch
        clear ho h hch hq hi hr h10 hbs HE
        go_wp2_with fail
        go_ret3
        exact ⟨_, by rw [Hq.out]; rfl, by rw [Hq.out]; exact HO.out, by rw [Hq.out]; exact HH.out, HC.out⟩
      · have hne10 : (r1.st != 10) = true := by simpa using h10
        by_cases h3 : r1.st = 3
        · rw [h3] at c0
          have c3 := h.cells.2.2.2.1
          have f0 := h.cells.2.2.2.2.1
          have f3 := h.cells.2.2.2.2.2.2.2
          have hlf1 := hi.s3 h3
          have hlf2 := hi.lf
          obtain ⟨m, hm⟩ : ∃ m : Nat, min r1.lf ((l.length : Int) - k) = (m : Int) := ⟨(min r1.lf ((l.length : Int) - k)).toNat, by omega⟩
          have hm1 : 1 ≤ m := by omega
          have hm2 : (m : Int) ≤ r1.lf := by omega
          have hm3 : k + m ≤ l.length := by omega
          have hsl : ((k : Int) + m).toNat - k = m := by omega
          have hkc : ¬ c = k := by omega
          have HQ := Lib.hid hq
          have HI := Lib.hid hi
          have Hh := Lib.hid h
          have Hc := Lib.hid hch
          have Ho := Lib.hid ho
          have HBS := Lib.hid ((hbs.drop k).take m)
          have HL : Hid ((List.take m (List.drop k l)).length = m) := Lib.hid (by rw [List.length_take, List.length_drop]; omega)
          have H3 := Lib.hid h3
          have HS : Hid (out.length + m ≤ 70368744177664) := Lib.hid (by omega)
          clear hq hi h hch ho hbs HE HN h10 h3 hr hlf1
          have HN2 : Hid (∀ k, u7.ownBlock = some k → k ≠ g) := Lib.hid (fun k hk => by have := (Ho.out.ge k hk).1; omega)
          have HR : Hid (runA { r1 with lf := r1.lf - m, st := if r1.lf - m = 0 then 4 else 3 } (l.drop (k + m)) (out ++ (l.drop k).take m) (k + m) = q) := Lib.hid (by
            have := runA_data m r1 (l.drop k) out k H3.out hm1 hm2 (by rw [List.length_drop]; omega)
            rw [List.drop_drop] at this
            rw [← this]; exact HQ.out)
          have HI2 : Hid (RdI { r1 with lf := r1.lf - m, st := if r1.lf - m = 0 then 4 else 3 }) := Lib.hid (HI.out.dataN H3.out m hm1 hm2)
          by_cases hz : r1.lf - m = 0
          · have hz' : (r1.lf - (m : Int) == 0) = true := by simpa using hz
            rw [if_pos hz] at HR HI2
            have Hz := Lib.hid hz
            clear hz
            go_wp2_with (at_builtin; (refine wp_app rfl _ _ rfl _ u7 _ rfl Ho.out _ _ _ rfl _ HL.out HBS.out nofun HS.out Hc.out.size ?_); intro v' w1 hown hgr _; have h1 := Hh.out.grown hgr HN2.out; have c0 := h1.cells.1; have c3 := h1.cells.2.2.2.1; have f0 := h1.cells.2.2.2.2.1; have f3 := h1.cells.2.2.2.2.2.2.2; have H1 := Lib.hid h1; have HO := Lib.hid hown; have HG := Lib.hid hgr; clear hown hgr h1)
            go_roundw
            case rel =>
              refine ⟨k + m, by go_num, _, _, by omega, HI2.out, (by dsimp only; omega), (H1.out.set3 _).set0 4, (HO.out.ch (ch_set2 w1 g 3 0 _ _) fun b hb hbg => ?_), ?_, ?_, HR.out⟩
              · have h1 := (HO.out.ge b hb).1; have h2 : b = g := hbg; omega
              · rw [List.length_append, HL.out]; omega
              · exact Ch.set (S := (· = g)) (Ch.set (S := (· = g)) (Hc.out.own Ho.out HG.out (Nat.le_refl _)) (.inl rfl) _) (.inl rfl) _
            case measure => simp [intOf]; omega
          · have hz' : (r1.lf - (m : Int) == 0) = false := by simpa using hz
            rw [if_neg hz] at HR HI2
            clear hz
            go_wp2_with (at_builtin; (refine wp_app rfl _ _ rfl _ u7 _ rfl Ho.out _ _ _ rfl _ HL.out HBS.out nofun HS.out Hc.out.size ?_); intro v' w1 hown hgr _; have h1 := Hh.out.grown hgr HN2.out; have c0 := h1.cells.1; have c3 := h1.cells.2.2.2.1; have f0 := h1.cells.2.2.2.2.1; have f3 := h1.cells.2.2.2.2.2.2.2; have H1 := Lib.hid h1; have HO := Lib.hid hown; have HG := Lib.hid hgr; clear hown hgr h1)
            go_roundw
            case rel =>
              refine ⟨k + m, by go_num, _, _, by omega, HI2.out, (by dsimp only; omega), (by have := H1.out.set3 (r1.lf - m); exact H3.out ▸ this), (HO.out.ch (ch_set1 w1 g 3 _) fun b hb hbg => ?_), ?_, ?_, HR.out⟩
              · have h1 := (HO.out.ge b hb).1; have h2 : b = g := hbg; omega
              · rw [List.length_append, HL.out]; omega
              · exact Ch.set (S := (· = g)) (Hc.out.own Ho.out HG.out (Nat.le_refl _)) (.inl rfl) _
            case measure => simp [intOf]; omega
        · have hne3 : (r1.st == 3) = false := by simpa using h3
          have hcell := hbs.cell k hkl
          have hlt := UInt8.toNat_lt l[k]
          have hdrop := List.drop_eq_getElem_cons hkl
          have htake := take_calls wr g r1 hi.ok h (HE.out.ch hch (by omega)) (l[k].toNat : Int) (by omega)
          generalize hx : l[k] = x at *
          have Hh := Lib.hid h
          have Hc := Lib.hid hch
          have Ho := Lib.hid ho
          have HI := Lib.hid hi
          have HT := Lib.hid htake
          by_cases hb2 : (takeS r1 (x.toNat : Int)).2 = true
          · have Hq : Hid (runA (takeS r1 x.toNat).1 (l.drop (k + 1)) out (k + 1) = q) := Lib.hid (by rw [← hq, hdrop, runA, if_neg h10, if_neg h3, if_pos hb2])
            have Hb2 := Lib.hid hb2
            have Hr := Lib.hid hr
            clear hb2 hq htake h hch ho hi hx hdrop hbs HE h10 h3 hlt hr
            go_wp2_with fail
            refine HT.out.mono ?_
            rintro e w1 ⟨he, h1, hch1⟩
            rw [Hb2.out] at he
            subst he
            have Hh1 := Lib.hid h1
            have Hc1 := Lib.hid (Hc.out.trans hch1)
            have Ho1 := Lib.hid (Ho.out.ch hch1 (fun b hb hbg => by have h1 := (Ho.out.ge b hb).1; have h2 : b = g := hbg; omega))
            clear h1 hch1 c0
            go_wp2_with fail
            go_roundw
            case rel => exact ⟨k + 1, by go_num, _, out, by omega, HI.out.take _ Hb2.out, HI.out.take_st _ Hr.out Hb2.out, Hh1.out, Ho1.out, by omega, Hc1.out, Hq.out⟩
            case measure => simp [intOf]; omega
          · have Hq : Hid (q = ({ (takeS r1 x.toNat).1 with st := 11 }, [], k, false)) := Lib.hid (by rw [← hq, hdrop, runA, if_neg h10, if_neg h3, if_neg hb2])
            have Hb2 := Lib.hid (Bool.not_eq_true _ ▸ hb2 : (takeS r1 (x.toNat : Int)).2 = false)
            clear hb2 hq htake h hch ho hi hx hdrop hbs HE h10 h3 hlt hr
            go_wp2_with fail
            refine HT.out.mono ?_
            rintro e w1 ⟨he, h1, hch1⟩
            rw [Hb2.out] at he
            subst he
            have c1 := h1.cells.1
            have f1 := h1.cells.2.2.2.2.1
            have Hh1 := Lib.hid h1
            have Hc1 := Lib.hid (Hc.out.trans hch1)
            clear h1 hch1 c0
            go_wp2_with fail
            go_ret3
            exact ⟨_, by rw [Hq.out]; rfl, by rw [Hq.out]; exact Ow.nil _ _, by rw [Hq.out]; exact Hh1.out.set0 11, Hc1.out.set (.inl rfl) _⟩
    · have hke : k = l.length := by omega
      subst hke
      have Hq : Hid (q = (r1, out, l.length, true)) := Lib.hid (by rw [← hq, List.drop_of_length_le (Nat.le_refl _), runA])
      have HO := Lib.hid ho
      have HH := Lib.hid h
      have HC := Lib.hid hch
      clear ho h hch hq hi hr HE
      go_wp2_with fail
      go_ret3
      exact ⟨_, by rw [Hq.out]; rfl, by rw [Hq.out]; exact HO.out, by rw [Hq.out]; exact HH.out, HC.out⟩
end Go.Proofs.YteneioapchhehaaDoor

/- strconv.AppendInt at base 16, walked. -/
namespace Go.Proofs.YteneioapchhehaaDoor
open Go.RowKit

/-- the table's cell that TrailingZeros(16) reads -/
def Tz16 (w : World) : Prop := w.cell? ⟨7, 15, none⟩ = some (.int .u8 4)

set_option maxHeartbeats 400000 in
theorem tz64_calls (w : World) (h : Tz16 w) : Calls Tryd.prog 122 #[.int .u64 16] w fun e w' => e = .returned (.int .i64 4) ∧ w = w' := by
  unfold Tz16 at h
  have hx : IntKind.u64.wrap (Go.bits .and .u64 16 (IntKind.u64.wrap (-16)) * 285870213051353865) / 288230376151711744 = 15 := by decide +kernel
  go_enter Tryd.func122, Tryd.ntmps122
  go_wp2
  go_ret
  exact ⟨rfl, rfl⟩
set_option maxHeartbeats 400000 in
theorem tz_calls (w : World) (h : Tz16 w) : Calls Tryd.prog 118 #[.int .u64 16] w fun e w' => e = .returned (.int .i64 4) ∧ w = w' := by
  have H := Lib.hid h
  clear h
  go_enter Tryd.func118, Tryd.ntmps118
  go_wp2_with (go_at_call 122; refine (tz64_calls _ H.out).mono ?_; rintro e w' ⟨rfl, rfl⟩)
  go_ret
  exact ⟨rfl, rfl⟩
set_option maxHeartbeats 400000 in
theorem isPow_calls (w : World) : Calls Tryd.prog 117 #[.int .i64 16] w fun e w' => e = .returned (.bool true) ∧ w = w' := by
  go_enter Tryd.func117, Tryd.ntmps117
  go_wp2
  go_ret
  exact ⟨rfl, rfl⟩

def hexDig (n : Nat) : UInt8 := UInt8.ofNat (if n < 10 then 48 + n else 87 + n)
/-- a number in hexadecimal -/
def hexL (n : Nat) : List UInt8 := if n < 16 then [hexDig n] else hexL (n / 16) ++ [hexDig (n % 16)]
termination_by n
decreasing_by omega

abbrev allDigits : ByteArray := { data := #[48, 49, 50, 51, 52, 53, 54, 55, 56, 57, 97, 98, 99, 100, 101, 102, 103, 104, 105, 106, 107, 108, 109, 110, 111, 112, 113, 114, 115, 116, 117, 118, 119, 120, 121, 122] }

/-- the loop: what has been written stands at the array's end -/
def FbRel (w : World) (n0 : Nat) (n i : Nat) (wr : World) : Prop :=
  ∃ (suf : List UInt8) (cur : Array Value), i + suf.length = 65 ∧ suf.length ≤ 11 ∧ n < 16 ^ (12 - suf.length) ∧ wr.heap[w.heap.size]? = some (.cells cur 162 (0, 0)) ∧ cur.size = 65 ∧
    (∀ j (b : UInt8), suf[j]? = some b → cur[i + j]? = some (bv b)) ∧ hexL n0 = hexL n ++ suf ∧ Below w.heap.size w wr ∧ wr.heap.size = w.heap.size + 1

theorem and15 (n : Nat) (h : n < 281474976710656) : Go.bits .and .u64 (n : Int) 15 = ((n % 16 : Nat) : Int) := by
  have := bits_mask .u64 48 (by decide) (fun m h0 h1 => by simp only [IntKind.wrap, IntKind.bits, IntKind.signed]; simp; omega) 4 (by decide) (n : Int) (by omega) (by simp; omega)
  simpa using this
theorem FbRel.start (w : World) (n : Nat) (hn : n < 16 ^ 12) : FbRel w n n 65 (w.alloc (Obj.cells Tryd.zeroCells162 162)) :=
  ⟨[], Tryd.zeroCells162, rfl, by simp, by simpa using hn, heap_alloc_new w _, by kernel_rfl, fun j b h => by simp at h, by simp, (Below.refl _ _).alloc (Nat.le_refl _) _, by simp⟩

theorem digits_all : ∀ r : Fin 36, allDigits.data.toList.getD r.val 0 = hexDig r.val := by decide
theorem digits_at (r : Nat) (h : r < allDigits.size) : allDigits[r]'h = hexDig r := by
  have h36 : r < 36 := h
  have := digits_all ⟨r, h36⟩
  dsimp only at this
  rw [← this]
  have e : allDigits[r]'h = allDigits.data[r]'h := rfl
  rw [e, List.getD_eq_getElem?_getD, Array.getElem?_toList, Array.getElem?_eq_getElem h]
  rfl

theorem pow16_step (n k : Nat) (h : n < 16 ^ (k + 1)) : n / 16 < 16 ^ k := by
  rw [Nat.pow_succ] at h
  omega
theorem hexL_step (n : Nat) (h : 16 ≤ n) : hexL n = hexL (n / 16) ++ [hexDig (n % 16)] := by rw [hexL, if_neg (by omega)]
theorem hexL_last (n : Nat) (h : n < 16) : hexL n = [hexDig n] := by rw [hexL, if_pos h]

/-- what the loop's relation gives of the next cell -/
theorem FbRel.next {w : World} {n0 n i : Nat} {wr : World} (h : FbRel w n0 n i wr) : ∃ j, i = j + 1 ∧ j < 65 ∧ n < 281474976710656 ∧ (∃ cv, wr.cell? ⟨w.heap.size, j, none⟩ = some cv) ∧ wr.frozen? ⟨w.heap.size, j, none⟩ = false := by
  obtain ⟨suf, cur, hi, hsl, hnl, hblk, hcs, hcur, hhex, hbel, hws⟩ := h
  obtain ⟨j, rfl⟩ : ∃ j, i = j + 1 := ⟨i - 1, by omega⟩
  have h1 : (16 : Nat) ^ (12 - suf.length) ≤ 16 ^ 12 := Nat.pow_le_pow_right (by omega) (by omega)
  have h2 : (16 : Nat) ^ 12 = 281474976710656 := by decide
  exact ⟨j, rfl, by omega, by omega, ⟨cur[j]'(by omega), by rw [blk_cell hblk]; exact Array.getElem?_eq_getElem _⟩, blk_free hblk _⟩

theorem put_suf {cur : Array Value} {suf : List UInt8} {j : Nat} {x : UInt8} (hcs : cur.size = 65) (hj : j < 65) (hcur : ∀ k (b : UInt8), suf[k]? = some b → cur[j + 1 + k]? = some (bv b)) :
    ∀ k (b : UInt8), (x :: suf)[k]? = some b → (cur.setIfInBounds j (bv x))[j + k]? = some (bv b) := by
  intro k b hk
  cases k with
  | zero =>
    simp only [List.getElem?_cons_zero, Option.some.injEq] at hk
    subst hk
    simp [hcs, hj]
  | succ k =>
    simp only [List.getElem?_cons_succ] at hk
    rw [Array.getElem?_setIfInBounds, if_neg (by omega)]
    have := hcur k b hk
    rw [show j + (k + 1) = j + 1 + k from by omega]
    exact this

theorem FbRel.step {w : World} {n0 n j : Nat} {wr : World} (h : FbRel w n0 n (j + 1) wr) (hge : 16 ≤ n) (x : UInt8) (hx : x = hexDig (n % 16)) : FbRel w n0 (n / 16) j (wr.setCell ⟨w.heap.size, j, none⟩ (bv x)) := by
  obtain ⟨suf, cur, hi, hsl, hnl, hblk, hcs, hcur, hhex, hbel, hws⟩ := h
  have hlen : suf.length ≤ 10 := by
    by_cases h11 : suf.length = 11
    · rw [h11] at hnl; simp at hnl; omega
    · omega
  refine ⟨x :: suf, cur.setIfInBounds j (bv x), by simp; omega, by simp; omega, ?_, blk_set hblk j _, by simpa using hcs, put_suf hcs (by omega) hcur, ?_, hbel.setCell (Nat.le_refl _) _, by simpa [World.setCell] using hws⟩
  · rw [List.length_cons]
    exact pow16_step n _ (by rw [show 12 - (suf.length + 1) + 1 = 12 - suf.length from by omega]; exact hnl)
  · rw [hhex, hexL_step n hge, hx]
    simp

theorem FbRel.last {w : World} {n0 n j : Nat} {wr : World} (h : FbRel w n0 n (j + 1) wr) (hlt : n < 16) (x : UInt8) (hx : x = hexDig n) :
    Bs (wr.setCell ⟨w.heap.size, j, none⟩ (bv x)) (some ⟨w.heap.size, j, none⟩) (hexL n0) ∧ (hexL n0).length = 65 - j ∧ (hexL n0).length ≤ 12 ∧ Below w.heap.size w (wr.setCell ⟨w.heap.size, j, none⟩ (bv x)) ∧ (wr.setCell ⟨w.heap.size, j, none⟩ (bv x)).heap.size = w.heap.size + 1 := by
  obtain ⟨suf, cur, hi, hsl, hnl, hblk, hcs, hcur, hhex, hbel, hws⟩ := h
  have hL : hexL n0 = x :: suf := by rw [hhex, hexL_last n hlt, hx]; rfl
  rw [hL]
  refine ⟨Bs.of_plain fun k b hk => ?_, by simp; omega, by simp; omega, hbel.setCell (Nat.le_refl _) _, by simpa [World.setCell] using hws⟩
  rw [blk_cell (blk_set hblk j (bv x))]
  exact put_suf hcs (by omega) hcur k b hk

theorem slice_arr65 (w : World) (g j : Nat) (h : j < 65) : (Instr.sliceAt 162 (.pointer (some ⟨g, 0, none⟩)) (some (.int .i64 j)) none none).run Tryd.prog w = .ok (.slice (some ⟨g, j, none⟩) (65 - j) (65 - j)) w := by
  have e1 : Tryd.prog.arrayLen 162 = 65 := by kernel_rfl
  have e2 : Tryd.prog.elem 162 = 5 := by kernel_rfl
  obtain ⟨i, hi, hz, hs1, hb1⟩ := info_parts info_u8
  rw [run_sliceAt_array_l w 162 ⟨g, 0, none⟩ (by kernel_rfl) .i64 j (by omega) (by rw [e1]; omega), e2, e1]
  simp [sizeOf, typeInfo, hi, hs1, Result.andThen, slicedAt, show ¬ (65 = j) from by omega, Addr.add_lit]

set_option maxHeartbeats 1000000 in
set_option maxRecDepth 100000 in
theorem formatBits_calls (w : World) (hT : Tz16 w) (B : Nat) (hB : B ≤ w.heap.size) (v : Value) (out : List UInt8) (ho : Ow w B v out) (hout : out.length ≤ 35184372088832) (n0 : Nat) (hn : n0 < 16 ^ 12) :
    Calls Tryd.prog 108 #[v, .int .u64 n0, .int .i64 16, .bool false, .bool true] w fun e w' => ∃ v' s, e = .returned (.tuple #[v', s]) ∧ Ow w' B v' (out ++ hexL n0) ∧ Ch (fun k => B ≤ k) w w' := by
  have hA : 7 < w.heap.size := World.block_lt_of_cell? w _ hT
  have H2 := Lib.hid (show Tz16 (w.alloc (Obj.cells Tryd.zeroCells162 162)) from (((Below.refl w.heap.size w).alloc (Nat.le_refl _) _).cell (p := ⟨7, 15, none⟩) hA).trans hT)
  have HS := Lib.hid (FbRel.start w n0 hn)
  have HO := Lib.hid ho
  have HB := Lib.hid hB
  have HOut := Lib.hid hout
  clear hT hA ho hB hout
  have hn' : (n0 : Int) < 281474976710656 := by
    have : (16 : Nat) ^ 12 = 281474976710656 := by decide
    omega
  clear hn
  go_enter Tryd.func108, Tryd.ntmps108
  go_wp2_with fail
  refine (isPow_calls _).mono ?_
  rintro e w' ⟨rfl, rfl⟩
  go_wp2_with fail
  refine (tz_calls _ H2.out).mono ?_
  rintro e w' ⟨rfl, rfl⟩
  go_wp2_with fail
  generalize w.alloc (Obj.cells Tryd.zeroCells162 162) = w1 at *
  clear H2 hn'
  go_loopw [1, 13] (fun vu vi wr => ∃ n i : Nat, vu = .int .u64 n ∧ vi = .int .i64 i ∧ FbRel w n0 n i wr) (fun vu _ _ => (intOf vu).toNat)
  case atStart => exact ⟨n0, 65, rfl, rfl, HS.out⟩
  case round =>
    obtain ⟨n, i, rfl, rfl, hrel⟩ := hrel
    clear HS
    obtain ⟨j, rfl, hj65, hn48, ⟨cv, hcell⟩, hfr⟩ := hrel.next
    have e1 : ((j + 1 : Nat) : Int) - 1 = (j : Int) := by omega
    have HR := Lib.hid hrel
    clear hrel
    by_cases hlt : n < 16
    · have HL := Lib.hid (fun x hx => HR.out.last hlt x hx)
      go_wp2_with fail
      have hsl := fun W => slice_arr65 W w.heap.size j hj65
      have hp : n < allDigits.size := by show n < 36; omega
      obtain ⟨hbs, hlen, hlen2, hbel, hsz⟩ := HL.out (allDigits[n]'hp) (digits_at n hp)
      have HBs := Lib.hid hbs
      have HLen := Lib.hid hlen
      have HBel := Lib.hid hbel
      have HSz : Hid (out.length + (65 - j) ≤ 70368744177664) := Lib.hid (by have := HOut.out; omega)
      clear hbs hlen hlen2 hbel hsz HL
      go_wp2_with fail
      rw [hsl]
      clear hsl
      generalize wr.setCell { block := w.heap.size, off := j } (Value.int .u8 (allDigits[n]'hp).toNat) = W2 at *
      have HO2 := Lib.hid (HO.out.below HBel.out)
      have HBs2 : Hid (B ≤ W2.heap.size) := Lib.hid (Nat.le_trans HB.out HBel.out.size)
      go_wp2_with (at_builtin; refine wp_app rfl _ _ rfl B v out rfl HO2.out (some ⟨w.heap.size, j, none⟩) _ _ rfl _ HLen.out HBs.out nofun HSz.out HBs2.out ?_; intro v' w2 hown hgr _; have HOw := Lib.hid hown; have HG := Lib.hid hgr; clear hown hgr)
      go_ret2
      exact ⟨_, _, rfl, HOw.out, (Ch.of_below HBel.out).grown HG.out fun k hk => .inl (HO2.out.ge k hk).1⟩
    · have hand := and15 n hn48
      have hmod : n % 16 < 16 := Nat.mod_lt _ (by omega)
      generalize hr : n % 16 = r at *
      have Hr := Lib.hid hr
      clear hr
      go_wp2_with fail
      go_roundw
      case rel => exact ⟨n / 16, j, by go_num, by go_num, HR.out.step (by omega) _ (by rw [Hr.out]; exact digits_at r _)⟩
      case measure => simp [intOf]; omega

end Go.Proofs.YteneioapchhehaaDoor

/- Package chunk: Put, Last, New, Done, walked. -/
namespace Go.Proofs.YteneioapchhehaaDoor
open Go.RowKit

set_option maxHeartbeats 400000 in
set_option maxRecDepth 100000 in
theorem AppendUint_calls (w : World) (hT : Tz16 w) (B : Nat) (hB : B ≤ w.heap.size) (v : Value) (out : List UInt8) (ho : Ow w B v out) (hout : out.length ≤ 35184372088832) (n0 : Nat) (hn : n0 < 16 ^ 12) :
    Calls Tryd.prog 95 #[v, .int .u64 n0, .int .i64 16] w fun e w' => ∃ v', e = .returned v' ∧ Ow w' B v' (out ++ hexL n0) ∧ Ch (fun k => B ≤ k) w w' := by
  have H := Lib.hid (formatBits_calls w hT B hB v out ho hout n0 hn)
  clear ho hout hn hB hT
  go_enter Tryd.func95, Tryd.ntmps95
  go_wp2_with fail
  refine H.out.mono ?_
  rintro e w' ⟨v', s, rfl, h1, h2⟩
  have H1 := Lib.hid h1
  have H2 := Lib.hid h2
  clear h1 h2
  go_wp2_with fail
  go_ret
  exact ⟨_, rfl, H1.out, H2.out⟩

set_option maxHeartbeats 400000 in
set_option maxRecDepth 100000 in
theorem iAppendInt_calls (w : World) (hT : Tz16 w) (B : Nat) (hB : B ≤ w.heap.size) (v : Value) (out : List UInt8) (ho : Ow w B v out) (hout : out.length ≤ 35184372088832) (n0 : Nat) (hn : n0 < 16 ^ 12) :
    Calls Tryd.prog 80 #[v, .int .i64 n0, .int .i64 16] w fun e w' => ∃ v', e = .returned v' ∧ Ow w' B v' (out ++ hexL n0) ∧ Ch (fun k => B ≤ k) w w' := by
  have H := Lib.hid (AppendUint_calls w hT B hB v out ho hout n0 hn)
  have h48 : (n0 : Int) < 281474976710656 := by
    have : (16 : Nat) ^ 12 = 281474976710656 := by decide
    omega
  have hwr : IntKind.u64.wrap (n0 : Int) = n0 := IntWalk.u64_in _ ⟨by omega, by omega⟩
  clear ho hout hn hB hT h48
  go_enter Tryd.func80, Tryd.ntmps80
  go_wp2_with fail
  refine H.out.mono ?_
  rintro e w' ⟨v', rfl, h1, h2⟩
  have H1 := Lib.hid h1
  have H2 := Lib.hid h2
  clear h1 h2
  go_wp2_with fail
  go_ret
  exact ⟨_, rfl, H1.out, H2.out⟩

set_option maxHeartbeats 400000 in
set_option maxRecDepth 100000 in
theorem AppendInt_calls (w : World) (hT : Tz16 w) (B : Nat) (hB : B ≤ w.heap.size) (v : Value) (out : List UInt8) (ho : Ow w B v out) (hout : out.length ≤ 35184372088832) (n0 : Nat) (hn : n0 < 16 ^ 12) :
    Calls Tryd.prog 61 #[v, .int .i64 n0, .int .i64 16] w fun e w' => ∃ v', e = .returned v' ∧ Ow w' B v' (out ++ hexL n0) ∧ Ch (fun k => B ≤ k) w w' := by
  have H := Lib.hid (iAppendInt_calls w hT B hB v out ho hout n0 hn)
  clear ho hout hn hB hT
  go_enter Tryd.func61, Tryd.ntmps61
  go_wp2_with fail
  refine H.out.mono ?_
  rintro e w' ⟨v', rfl, h1, h2⟩
  have H1 := Lib.hid h1
  have H2 := Lib.hid h2
  clear h1 h2
  go_wp2_with fail
  go_ret
  exact ⟨_, rfl, H1.out, H2.out⟩

/-- bytes as a chunk -/
def putL (l : List UInt8) : List UInt8 := if l = [] then [] else hexL l.length ++ [13, 10] ++ l ++ [13, 10]

theorem hexL_len (n : Nat) : ∀ k, n < 16 ^ (k + 1) → (hexL n).length ≤ k + 1 := by
  intro k
  induction k generalizing n with
  | zero => intro h; rw [hexL_last n (by simpa using h)]; simp
  | succ k ih =>
    intro h
    by_cases h16 : n < 16
    · rw [hexL_last n h16]; simp
    · rw [hexL_step n (by omega), List.length_append]
      have := ih (n / 16) (pow16_step n _ h)
      simp only [List.length_cons, List.length_nil]
      omega

set_option maxHeartbeats 400000 in
theorem Put_empty (w : World) (ao : Option Addr) (c : Nat) :
    Calls Tryd.prog 45 #[.slice ao 0 c] w fun e w' => e = .returned (.slice none 0 0) ∧ w = w' := by
  go_enter Tryd.func45, Tryd.ntmps45
  go_wp2_with fail
  go_ret
  exact ⟨rfl, rfl⟩

set_option maxHeartbeats 1000000 in
set_option maxRecDepth 100000 in
theorem Put_some (w : World) (hT : Tz16 w) (b off : Nat) (l : List UInt8) (c : Nat) (hl0 : 0 < l.length) (hl : l.length ≤ 1099511627776) (hb : Bs w (some ⟨b, off, none⟩) l) :
    Calls Tryd.prog 45 #[.slice (some ⟨b, off, none⟩) l.length c] w fun e w' => ∃ v', e = .returned v' ∧ Ow w' w.heap.size v' (putL l) ∧ Below w.heap.size w w' := by
  have hp : putL l = hexL l.length ++ [13, 10] ++ l ++ [13, 10] := if_neg (by intro h; rw [h] at hl0; simp at hl0)
  have h16 : l.length < 16 ^ 12 := by
    have : (16 : Nat) ^ 12 = 281474976710656 := by decide
    omega
  have HP := Lib.hid hp
  have H := Lib.hid (AppendInt_calls w hT w.heap.size (Nat.le_refl _) (.slice none 0 0) [] (Ow.nil _ _) (by simp) l.length h16)
  have HB := Lib.hid hb
  have HX : Hid ((hexL l.length).length ≤ 12) := Lib.hid (hexL_len _ 11 h16)
  have HL := Lib.hid hl
  have hne : ((l.length : Int) == 0) = false := beq_eq_false_iff_ne.2 (by omega)
  clear hp h16 hb hT hl
  go_enter Tryd.func45, Tryd.ntmps45
  go_wp2_with fail
  refine H.out.mono ?_
  rintro e w1 ⟨v1, rfl, ho1, hc1⟩
  have hb1 := Below.of_ge hc1
  have HO1 := Lib.hid ho1
  have HB1 := Lib.hid hb1
  clear ho1 hc1 hb1 H
  have HS1 : Hid (([] ++ hexL l.length).length + 2 ≤ 70368744177664) := Lib.hid (by have := HX.out; simp; omega)
  have HS2 : Hid (([] ++ hexL l.length ++ [13, 10]).length + l.length ≤ 70368744177664) := Lib.hid (by have := HX.out; have := HL.out; simp; omega)
  have HS3 : Hid (([] ++ hexL l.length ++ [13, 10] ++ l).length + 2 ≤ 70368744177664) := Lib.hid (by have := HX.out; have := HL.out; simp; omega)
  go_wp2_with (first
    | (at_builtin; refine wp_app_str rfl _ _ rfl w.heap.size v1 _ rfl HO1.out ⟨#[13, 10]⟩ rfl HS1.out HB1.out.size ?_; intro v2 w2 hown hgr _; have HB2 := Lib.hid (Below.own HB1.out HO1.out hgr (Nat.le_refl _)); have HO2 := Lib.hid hown; have HBs2 := Lib.hid (HB.out.below HB2.out); clear hown hgr HO1)
    | (at_builtin; refine wp_app rfl _ _ rfl w.heap.size v2 _ rfl HO2.out (some ⟨b, off, none⟩) _ _ rfl l rfl HBs2.out nofun HS2.out HB2.out.size ?_; intro v3 w3 hown hgr _; have HB3 := Lib.hid (Below.own HB2.out HO2.out hgr (Nat.le_refl _)); have HO3 := Lib.hid hown; clear hown hgr HO2)
    | (at_builtin; refine wp_app_str rfl _ _ rfl w.heap.size v3 _ rfl HO3.out ⟨#[13, 10]⟩ rfl HS3.out HB3.out.size ?_; intro v4 w4 hown hgr _; have HB4 := Lib.hid (Below.own HB3.out HO3.out hgr (Nat.le_refl _)); have HO4 := Lib.hid hown; clear hown hgr HO3))
  go_ret
  exact ⟨_, rfl, by rw [HP.out]; simpa using HO4.out, HB4.out⟩

theorem Put_calls (w : World) (hT : Tz16 w) (ao : Option Addr) (l : List UInt8) (c : Nat) (hl : l.length ≤ 1099511627776) (hb : Bs w ao l) :
    Calls Tryd.prog 45 #[.slice ao l.length c] w fun e w' => ∃ v', e = .returned v' ∧ Ow w' w.heap.size v' (putL l) ∧ Below w.heap.size w w' := by
  by_cases h0 : l = []
  · subst h0
    exact (Put_empty w ao c).mono fun e w' ⟨he, hw⟩ => by subst he; subst hw; exact ⟨_, rfl, Ow.nil _ _, Below.refl _ _⟩
  · have hp : 0 < l.length := List.length_pos_iff.2 h0
    obtain ⟨b, off, rfl⟩ := hb.some_of hp
    exact Put_some w hT b off l c hp hl hb

def lastL : List UInt8 := [48, 13, 10, 13, 10]
set_option maxHeartbeats 400000 in
set_option maxRecDepth 100000 in
theorem Last_calls (w : World) : Calls Tryd.prog 46 #[] w fun e w' => ∃ v', e = .returned v' ∧ Ow w' w.heap.size v' lastL ∧ Below w.heap.size w w' := by
  have kc := fun (w : World) (C : Array Value) (n c : Nat) => Lib.run_convert_bytes_const (P := Tryd.prog) w 43 5 C n c Tryd.underlying43 Tryd.underlying5
  go_enter Tryd.func46, Tryd.ntmps46
  go_wp2
  go_ret
  refine ⟨_, rfl, ⟨rfl, .inr ⟨w.heap.size, 5, _, _, rfl, Nat.le_refl _, heap_alloc_new w _, fun j _ h2 h3 => ?_, Nat.le_refl _, by decide, rfl, rfl⟩⟩, (Below.refl _ _).alloc (Nat.le_refl _) _⟩
  have := h3.1
  omega
set_option maxHeartbeats 400000 in
theorem New_calls (w : World) : Calls Tryd.prog 36 #[] w fun e w' => e = .returned (.pointer (some ⟨w.heap.size, 0, none⟩)) ∧ RdAt w' w.heap.size ⟨0, 0, 0, 0⟩ ∧ Below w.heap.size w w' := by
  go_enter Tryd.func36, Tryd.ntmps36
  go_wp2
  go_ret
  exact ⟨rfl, heap_alloc_new w _, (Below.refl _ _).alloc (Nat.le_refl _) _⟩
set_option maxHeartbeats 400000 in
theorem Done_calls (w : World) (g : Nat) (r : Rd) (h : RdAt w g r) : Calls Tryd.prog 37 #[.pointer (some ⟨g, 0, none⟩)] w fun e w' => e = .returned (.bool (r.st == 10)) ∧ w = w' := by
  have c0 := h.cells.1
  clear h
  go_enter Tryd.func37, Tryd.ntmps37
  go_wp2
  go_ret
  exact ⟨rfl, rfl⟩
end Go.Proofs.YteneioapchhehaaDoor

/- slices.Chunk, walked: the iterator, and its closure. -/
namespace Go.Proofs.YteneioapchhehaaDoor
open Go.RowKit Go.Shelf
attribute [local go_sem] Oper.semAt_some

/-- where the chunks of so many bytes lie: begin and length -/
def cidx (n len : Nat) : Nat → Nat → List { x : Nat × Nat // x.1 + x.2 ≤ len }
  | 0, _ => []
  | f + 1, i => if h : i < len then ⟨(i, min n (len - i)), by dsimp only; omega⟩ :: cidx n len f (i + n) else []

set_option maxHeartbeats 400000 in
theorem Chunk_calls (ao : Option Addr) (l c : Nat) (n : Int) (hn : 1 ≤ n) (w : World) :
    Calls Tryd.prog 44 #[.slice ao l c, .int .i64 n] w fun e w' => e = .returned (.func (.func 60) #[] #[.pointer (some ⟨w.heap.size, 0, none⟩), .pointer (some ⟨w.heap.size + 1, 0, none⟩)]) ∧
      (w.alloc (.cells #[.slice ao l c] 43)).alloc (.cells #[.int .i64 n] 3) = w' := by
  go_enter Tryd.func44, Tryd.ntmps44
  go_wp2
  go_ret
  exact ⟨rfl, rfl⟩

/-- two blocks stay as they are -/
def KpG (g : Nat) (W W' : World) : Prop := W'.heap[g]? = W.heap[g]? ∧ W'.heap[g + 1]? = W.heap[g + 1]?
theorem KpG.trans {g : Nat} {A B C : World} (h : KpG g A B) (k : KpG g B C) : KpG g A C := ⟨k.1.trans h.1, k.2.trans h.2⟩
theorem KpG.put {g : Nat} (W : World) (l : Nat) (o' : Obj) (hl : g + 1 < l) : KpG g W (W.putObj l o') := by
  constructor <;> (unfold World.putObj; simp only [Array.getElem?_setIfInBounds]; rw [if_neg (by omega)])

/-- a chunk as the value that comes -/
abbrev cenc (b off len : Nat) (x : { x : Nat × Nat // x.1 + x.2 ≤ len }) : Array Value := #[.slice (some ⟨b, off + x.1.1, none⟩) x.1.2 x.1.2]

set_option maxRecDepth 100000 in
set_option maxHeartbeats 2000000 in
theorem Chunk1_in (d : Nat) (hd : 1 ≤ d) (l g b off len cap : Nat) (hlen : len ≤ 1099511627776) (hcap : len ≤ cap) (n : Nat) (hn : 1 ≤ n) (hn2 : n ≤ 9223372036854775807)
    (J Jx : List { x : Nat × Nat // x.1 + x.2 ≤ len } → World → Prop)
    (hY : ∀ pre x W, J pre W → pre.length < len → YieldAt Fence.wide (d - 1) Tryd.prog l (cenc b off len x) W fun e W' =>
      (e = .returned (.bool true) ∧ J (pre ++ [x]) W' ∧ KpG g W W') ∨ (e = .returned (.bool false) ∧ Jx (pre ++ [x]) W'))
    (hJd : ∀ pre W, J pre W → J pre W.drew)
    (W : World) (hs : W.cell? ⟨g, 0, none⟩ = some (.slice (some ⟨b, off, none⟩) len cap)) (hs2 : W.cell? ⟨g + 1, 0, none⟩ = some (.int .i64 n)) (h0 : J [] W) :
    CallsIn Fence.wide d Tryd.prog 60 #[.func (.yield l) #[] #[], .pointer (some ⟨g, 0, none⟩), .pointer (some ⟨g + 1, 0, none⟩)] W fun e W' => (∃ v, e = .returned v) ∧
      ((∃ ys, ys = cidx n len len 0 ∧ J ys W') ∨ (∃ pre, True ∧ Jx pre W')) := by
  refine callsIn_of_wp Tryd.func60 rfl trivial ?_ rfl
  simp only [Tryd.ntmps60, List.size_toArray, List.length_cons, List.length_nil, Nat.reduceAdd, Nat.reduceSub, Array.replicate_succ, Array.replicate_zero, List.push_toArray, List.append_toArray, List.nil_append, List.cons_append]
  gi_wp2
  gi_loopw [4] (fun i wr => ∃ (k f : Nat) (pre : List { x : Nat × Nat // x.1 + x.2 ≤ len }), i = .int .i64 k ∧ (k = 0 ∨ n ≤ k) ∧ len ≤ k + f ∧ pre.length + f ≤ len ∧ pre ++ cidx n len f k = cidx n len len 0 ∧ J pre wr ∧ KpG g W wr)
    (fun i _ => len - (intOf i).toNat)
  case atStart => exact ⟨0, len, [], rfl, .inl rfl, by omega, by simp, by simp, h0, rfl, rfl⟩
  case round =>
    obtain ⟨k, f, pre, rfl, hk0, hkf, hpf, hpre, hJs, hnx⟩ := hrel
    have hsx := (World.cell?_of_block (w := W) (a := ⟨g, 0, none⟩) hnx.1).trans hs
    have hsx2 := (World.cell?_of_block (w := W) (a := ⟨g + 1, 0, none⟩) hnx.2).trans hs2
    by_cases hlt : k < len
    · obtain ⟨f, rfl⟩ : ∃ f', f = f' + 1 := ⟨f - 1, by omega⟩
      have hck : ¬ cap = k := by omega
      obtain ⟨m, hm⟩ : ∃ m : Nat, min (n : Int) ((len - k : Nat) : Int) = (m : Int) := ⟨min n (len - k), by omega⟩
      have hmm : min n (len - k) = m := by omega
      have hm1 : 1 ≤ m := by omega
      have hkm : k + m ≤ len := by omega
      have hkm2 : ((k : Int) + m).toNat = k + m := by omega
      have hnk : ¬ k + m = k := by omega
      have hkn : (k : Int) + n ≤ 9223372036854775807 := by omega
      have hcx : cidx n len (f + 1) k = ⟨(k, m), hkm⟩ :: cidx n len f (k + n) := by
        rw [cidx, dif_pos hlt]
        congr 1
        exact Subtype.ext (Prod.ext rfl hmm)
      have HX : Hid ((pre ++ [⟨(k, m), hkm⟩]) ++ cidx n len f (k + n) = cidx n len len 0) := Lib.hid (by rw [← hpre, hcx]; simp)
      obtain ⟨fn, tmps, assign, body, hy, hR⟩ := hY pre ⟨(k, m), hkm⟩ wr.drew (hJd _ _ hJs) (by omega)
      dsimp only [cenc] at hy
      clear hcx hpre hmm hk0
      gi_wp2
      gi_region
      gi_wp2
      refine hR.mono ?_
      rintro e W3 (⟨rfl, hJ3, hk3⟩ | ⟨rfl, hJx3⟩)
      · have hsx3 := (World.cell?_of_block (w := W) (a := ⟨g + 1, 0, none⟩) (hnx.trans hk3).2).trans hs2
        gi_wp2
        go_roundw
        case rel => exact ⟨k + n, f, pre ++ [⟨(k, m), hkm⟩], by go_num, .inr (by omega), by omega, by simp; omega, HX.out, hJ3, hnx.trans hk3⟩
        case measure => simp [intOf]; omega
      · gi_wp2
        refine bodyPost_ret (results_none rfl _ _ _) rfl ?_
        exact ⟨⟨_, rfl⟩, .inr ⟨_, trivial, hJx3⟩⟩
    · have hc0 : cidx n len f k = [] := by cases f with
        | zero => rfl
        | succ f => rw [cidx, dif_neg hlt]
      rw [hc0, List.append_nil] at hpre
      gi_wp2
      go_end0
      exact ⟨⟨_, rfl⟩, .inl ⟨_, hpre, hJs⟩⟩

set_option maxRecDepth 100000 in
set_option maxHeartbeats 1000000 in
theorem Chunk1_nil (d : Nat) (l g : Nat) (ao : Option Addr) (cap : Nat) {α : Type} (J : List α → World → Prop)
    (W : World) (hs : W.cell? ⟨g, 0, none⟩ = some (.slice ao 0 cap)) (h0 : J [] W) :
    CallsIn Fence.wide d Tryd.prog 60 #[.func (.yield l) #[] #[], .pointer (some ⟨g, 0, none⟩), .pointer (some ⟨g + 1, 0, none⟩)] W fun e W' => (∃ v, e = .returned v) ∧ J [] W' := by
  refine callsIn_of_wp Tryd.func60 rfl trivial ?_ rfl
  simp only [Tryd.ntmps60, List.size_toArray, List.length_cons, List.length_nil, Nat.reduceAdd, Nat.reduceSub, Array.replicate_succ, Array.replicate_zero, List.push_toArray, List.append_toArray, List.nil_append, List.cons_append]
  gi_wp2
  gi_loopw [4] (fun i wr => i = .int .i64 0 ∧ wr = W) (fun _ _ => 0)
  case atStart => exact ⟨rfl, rfl⟩
  case round =>
    obtain ⟨rfl, rfl⟩ := hrel
    gi_wp2
    go_end0
    exact ⟨⟨_, rfl⟩, h0⟩

theorem abides_drew {α : Type} {B : Nat} {J : List α → World → Prop} (h : AbidesFrom B J) : ∀ pre W, J pre W → J pre W.drew :=
  fun pre W hs => h pre W W.drew none hs ⟨rfl, rfl, rfl, Nat.le_refl _, fun _ _ _ => rfl⟩ nofun

/-- slices.Chunk's value: the chunks, one behind the other -/
theorem Chunk_stops (d : Nat) (hd : 1 ≤ d) (g b off len cap : Nat) (hlen : len ≤ 1099511627776) (hcap : len ≤ cap) (n : Nat) (hn : 1 ≤ n) (hn2 : n ≤ 9223372036854775807) (w : World) (hg : g + 1 < w.heap.size)
    (hs : w.cell? ⟨g, 0, none⟩ = some (.slice (some ⟨b, off, none⟩) len cap)) (hs2 : w.cell? ⟨g + 1, 0, none⟩ = some (.int .i64 n)) :
    SeqStopsK Fence.wide d Tryd.prog 60 #[.pointer (some ⟨g, 0, none⟩), .pointer (some ⟨g + 1, 0, none⟩)] (cenc b off len) (KpG g) (fun ys => ys = cidx n len len 0) (fun _ => True) len w := fun l J Jx W hW hJ hJx hY h0 =>
  Chunk1_in d hd l g b off len cap hlen hcap n hn hn2 J Jx hY (abides_drew hJ) W ((hW.cell (p := ⟨g, 0, none⟩) (by show g < w.heap.size; omega)).trans hs) ((hW.cell (p := ⟨g + 1, 0, none⟩) (by show g + 1 < w.heap.size; omega)).trans hs2) h0
/-- of no bytes: no chunk -/
theorem Chunk_stops_nil (d : Nat) (g b off : Nat) (ao : Option Addr) (cap : Nat) (w : World) (hg : g + 1 < w.heap.size) (hs : w.cell? ⟨g, 0, none⟩ = some (.slice ao 0 cap)) :
    SeqStopsK Fence.wide d Tryd.prog 60 #[.pointer (some ⟨g, 0, none⟩), .pointer (some ⟨g + 1, 0, none⟩)] (cenc b off 0) (KpG g) (fun ys => ys = []) (fun _ => True) 0 w := fun l J Jx W hW _ _ _ h0 =>
  (Chunk1_nil d l g ao cap J W ((hW.cell (p := ⟨g, 0, none⟩) (by show g < w.heap.size; omega)).trans hs) h0).mono fun _ _ ⟨h1, h2⟩ => ⟨h1, .inl ⟨[], rfl, h2⟩⟩
end Go.Proofs.YteneioapchhehaaDoor

/- Package chunk: Whole, walked. -/
namespace Go.Proofs.YteneioapchhehaaDoor
open Go.RowKit Go.Shelf
attribute [local go_sem] Oper.semAt_some

/-- the chunks that have come -/
def outOf (l : List UInt8) (xs : List { x : Nat × Nat // x.1 + x.2 ≤ l.length }) : List UInt8 := (xs.map fun x => putL ((l.drop x.1.1).take x.1.2)).flatten
theorem outOf_snoc (l : List UInt8) (xs : List { x : Nat × Nat // x.1 + x.2 ≤ l.length }) (x : { x : Nat × Nat // x.1 + x.2 ≤ l.length }) : outOf l (xs ++ [x]) = outOf l xs ++ putL ((l.drop x.1.1).take x.1.2) := by simp [outOf]
theorem putL_len (l : List UInt8) (h : l.length ≤ 1099511627776) : (putL l).length ≤ l.length + 16 := by
  unfold putL
  split
  · simp
  · have := hexL_len l.length 11 (by have : (16 : Nat) ^ 12 = 281474976710656 := by decide
                                     omega)
    simp only [List.length_append, List.length_cons, List.length_nil]
    omega
theorem outOf_len (l : List UInt8) (h : l.length ≤ 1048576) (xs : List { x : Nat × Nat // x.1 + x.2 ≤ l.length }) : (outOf l xs).length ≤ xs.length * 1048592 := by
  induction xs with
  | nil => simp [outOf]
  | cons x xs ih =>
    have h1 := putL_len ((l.drop x.1.1).take x.1.2) (by rw [List.length_take, List.length_drop]; omega)
    have h2 : ((l.drop x.1.1).take x.1.2).length ≤ l.length := by rw [List.length_take, List.length_drop]; omega
    have e : outOf l (x :: xs) = putL ((l.drop x.1.1).take x.1.2) ++ outOf l xs := by simp [outOf]
    rw [e, List.length_append, List.length_cons]
    omega

theorem cidx_len (n len : Nat) : ∀ f i, (cidx n len f i).length ≤ f
  | 0, _ => by simp [cidx]
  | f + 1, i => by
    rw [cidx]
    split
    · have := cidx_len n len f (i + n); simp; omega
    · simp

def wholeL (l : List UInt8) (n : Nat) : List UInt8 := outOf l (cidx n l.length l.length 0) ++ lastL

theorem ow_row {W W' : World} {row : Option Nat} {B : Nat} {v : Value} {l : List UInt8} (h : Ow W B v l) (hg : W.grownBy W' row) (hr : ∀ r, row = some r → ∃ o : Obj, W.heap[r]? = some o ∧ o.isCells = false) : Ow W' B v l :=
  RowO.keep h fun k hk => hg.block k (RowO.lt h k hk).2 (by
    intro e
    obtain ⟨o, ho, hc⟩ := hr k e.symm
    rcases h.2 with ⟨rfl, _⟩ | ⟨g, cap, cur, fz, rfl, _, hh, _⟩
    · cases hk
    · cases hk; rw [hh] at ho; cases ho; cases hc)
theorem box_row {W W' : World} {row : Option Nat} {g : Nat} {cs : Array Value} {t : TypeId} {fr : Nat × Nat} (h : W.heap[g]? = some (.cells cs t fr)) (hg : W.grownBy W' row) (hr : ∀ r, row = some r → ∃ o : Obj, W.heap[r]? = some o ∧ o.isCells = false) : W'.heap[g]? = some (.cells cs t fr) :=
  (hg.block g (lt_of_block h) (by intro e; obtain ⟨o, ho, hc⟩ := hr g e.symm; rw [h] at ho; cases ho; cases hc)).trans h

/-- between two rounds -/
def WhI (w : World) (l : List UInt8) (pre : List { x : Nat × Nat // x.1 + x.2 ≤ l.length }) (W : World) : Prop :=
  ∃ v, W.heap[w.heap.size]? = some (.cells #[v] 43 (0, 0)) ∧ Ow W (w.heap.size + 3) v (outOf l pre) ∧ Below w.heap.size w W ∧ w.heap.size + 3 ≤ W.heap.size

theorem WhI.own (w : World) (l : List UInt8) : OwnFrom (w.heap.size + 3) (WhI w l) := by
  rintro pre W W' row ⟨v, hb, ho, hB, hsz⟩ hg hr
  exact ⟨v, box_row hb hg (fun r e => (hr r e).2), ow_row ho hg (fun r e => (hr r e).2), hB.grown hg hB.size (fun k e => by have := (hr k e).1; omega), Nat.le_trans hsz hg.size⟩

theorem Below.cells_keep {B : Nat} {A C : World} (h : Below A.heap.size A C) : KeepsFrom B A C :=
  ⟨h.size, fun k _ _ hk _ => (h.block k (Array.getElem?_eq_some_iff.1 hk).1).trans hk⟩

/-- one operation alone may come up -/
theorem any_one {F : Fence} {n : Nat} {P : Program} {md : Region.Mode} {ops : Array Oper} {Q : Exit → Act → World → Prop} {fuel : Nat} {listed : Array Bool} {a : Act} {w : World} {i : Nat} {o : Oper} (hr : Region.ready md ops listed = [i]) (ho : ops[i]? = some o)
    (h : ∀ K' : Act → World → Prop, (∀ a w, wpAnyIn F n P md ops Q fuel (listed.setIfInBounds i true) a w → K' a w) → if Region.wanted o (yielded ops a.tmps) = true then Oper.wpIn F n P o a w K' Q else (∀ f, o.about P w a.eval = some f → F.fn f) ∧ K' (a.put o.dst undef) w) :
    wpAnyIn F n P md ops Q (fuel + 1) listed a w := wpAnyIn_ready hr (by simp) (AllReadyIn.cons ho h AllReadyIn.nil)
/-- one of two may come up -/
theorem any_two {F : Fence} {n : Nat} {P : Program} {md : Region.Mode} {ops : Array Oper} {Q : Exit → Act → World → Prop} {fuel : Nat} {listed : Array Bool} {a : Act} {w : World} {i j : Nat} {o o' : Oper} (hr : Region.ready md ops listed = [i, j]) (ho : ops[i]? = some o) (ho' : ops[j]? = some o')
    (h : ∀ K' : Act → World → Prop, (∀ a w, wpAnyIn F n P md ops Q fuel (listed.setIfInBounds i true) a w → K' a w) → if Region.wanted o (yielded ops a.tmps) = true then Oper.wpIn F n P o a w K' Q else (∀ f, o.about P w a.eval = some f → F.fn f) ∧ K' (a.put o.dst undef) w)
    (h' : ∀ K' : Act → World → Prop, (∀ a w, wpAnyIn F n P md ops Q fuel (listed.setIfInBounds j true) a w → K' a w) → if Region.wanted o' (yielded ops a.tmps) = true then Oper.wpIn F n P o' a w K' Q else (∀ f, o'.about P w a.eval = some f → F.fn f) ∧ K' (a.put o'.dst undef) w) :
    wpAnyIn F n P md ops Q (fuel + 1) listed a w := wpAnyIn_ready hr (by simp) (AllReadyIn.cons ho h (AllReadyIn.cons ho' h' AllReadyIn.nil))
/-- an append whose run is known -/
theorem step_run_in {F : Fence} {n : Nat} {w w' : World} {ops : Array Oper} {o : Oper} {a : Act} {K : Act → World → Prop} {Q : Exit → Act → World → Prop} {E : Prop} (hF : ∀ f, F.fn f) (hgd : o.guard = none) (s x : Operand)
    (ho : o.op = .call { callee := .builtin .append, args := #[s, x], argTypes := #[43, 43] }) {v u v' : Value} (hs : a.eval s = v) (hx : a.eval x = u)
    (hr : (Builtin.append_ #[43, 43] o.type #[v, u]).run Tryd.prog w = .ok v' w') (h : K (a.put o.dst v') w') :
    if Region.wanted o (yielded ops a.tmps) = true then Oper.wpIn F n Tryd.prog o a w K Q else E := by
  have hw : Region.wanted o (yielded ops a.tmps) = true := by simp [Region.wanted, hgd]
  rw [if_pos hw]
  unfold Oper.wpIn
  refine ⟨fun f hf => ?_, ?_⟩
  · exact hF f
  · rw [Oper.semAt_eq _ _ _ (fun c => by rw [ho]; simp)]
    unfold execOp
    simp only [ho, resolve, invoke, builtin, Sem.run_bind, Sem.run_pure, Result.andThen_ok, List.map_toArray, List.map_cons, List.map_nil, hs, hx, hr]
    exact h

/-- a round's step: what an append and the store into the box come to -/
theorem wh_step {w W w1 : World} {out L : List UInt8} {v v1 : Value} {g : Nat} (hg : g = w.heap.size) (hv : W.heap[g]? = some (.cells #[v] 43 (0, 0))) (ho : Ow W (w.heap.size + 3) v out) (hB : Below w.heap.size w W) (hsW : w.heap.size + 3 ≤ W.heap.size)
    (ho1 : Ow w1 W.drew.heap.size v1 L) (hb1 : Below W.drew.heap.size W.drew w1) (hsz : out.length + L.length ≤ 70368744177664) :
    ∃ ao1 c1 ao2 n2 c2 w2, v1 = .slice ao1 L.length c1 ∧ (Builtin.append_ #[43, 43] 43 #[v, .slice ao1 L.length c1]).run Tryd.prog w1 = .ok (.slice ao2 n2 c2) w2 ∧ w1.cell? ⟨g, 0, none⟩ = some v ∧ w2.cell? ⟨g, 0, none⟩ = some v ∧ w2.frozen? ⟨g, 0, none⟩ = false ∧
      (w2.setCell ⟨g, 0, none⟩ (.slice ao2 n2 c2)).heap[g]? = some (.cells #[.slice ao2 n2 c2] 43 (0, 0)) ∧ Ow (w2.setCell ⟨g, 0, none⟩ (.slice ao2 n2 c2)) (w.heap.size + 3) (.slice ao2 n2 c2) (out ++ L) ∧ Below w.heap.size w (w2.setCell ⟨g, 0, none⟩ (.slice ao2 n2 c2)) ∧ w.heap.size + 3 ≤ (w2.setCell ⟨g, 0, none⟩ (.slice ao2 n2 c2)).heap.size ∧
      KeepsFrom (w.heap.size + 3) W (w2.setCell ⟨g, 0, none⟩ (.slice ao2 n2 c2)) ∧ KpG (g + 1) W (w2.setCell ⟨g, 0, none⟩ (.slice ao2 n2 c2)) := by
  obtain ⟨ao1, c1, hv1, hbs1, hle, hof, hnc⟩ := ho1.bs'
  have hs1 : w.heap.size + 3 ≤ w1.heap.size := Nat.le_trans hsW hb1.size
  have ho' : Ow w1 (w.heap.size + 3) v out := RowO.keep ho fun k hk => hb1.block k (ho.ge k hk).2
  have hv' : w1.heap[g]? = some (.cells #[v] 43 (0, 0)) := (hb1.block g (by show g < W.heap.size; omega)).trans hv
  obtain ⟨v2, w2, hrun, ho2, hg2, -⟩ := run_app w1 (w.heap.size + 3) 43 v out ho' ao1 L.length c1 L rfl hbs1 hnc hsz hs1
  obtain ⟨ao2, c2, hv2e, -, -, -, -⟩ := ho2.bs'
  subst hv2e
  have hne : some g ≠ v.ownBlock := by intro e; have := (ho'.ge g e.symm).1; omega
  have hv2 : w2.heap[g]? = some (.cells #[v] 43 (0, 0)) := (hg2.block g (by omega) hne).trans hv'
  have hlow : ∀ k, k < w.heap.size + 3 → w2.heap[k]? = W.heap[k]? := fun k hk =>
    (hg2.block k (by omega) (by intro e; have := (ho'.ge k e.symm).1; omega)).trans (hb1.block k (by show k < W.heap.size; omega))
  refine ⟨ao1, c1, ao2, _, c2, w2, hv1, hrun, (blk_cell hv' 0).trans rfl, (blk_cell hv2 0).trans rfl, blk_free hv2 0, blk_set hv2 0 _, ?_, ?_, ?_, ?_, ?_⟩
  · exact RowO.keep ho2 fun k hk => Below.heap_setCell _ _ _ _ (by have := (ho2.ge k hk).1; show k ≠ g; omega)
  · have h2 : Below w.heap.size w w2 := (hB.trans ((Below.drew (Below.refl w.heap.size W)).trans (hb1.mono (by show w.heap.size ≤ W.heap.size; omega)))).grown hg2 (by omega) (fun k hk => by have := (ho'.ge k hk).1; omega)
    exact h2.setCell (by show w.heap.size ≤ g; omega) _
  · have := hg2.size; simp only [World.setCell, Array.size_modify]; omega
  · have hk2 : KeepsFrom (w.heap.size + 3) w1 w2 := KeepsOthers.from (KeepsOthers.of_grownBy hg2 (fun j o hj ho => by
      rcases ho'.2 with ⟨rfl, _⟩ | ⟨gg, cap, cur, fz, rfl, _, hh, _⟩
      · cases hj
      · cases hj; rw [hh] at ho; cases ho; rfl)) _
    have hk1 : KeepsFrom (w.heap.size + 3) W w1 := ⟨hb1.size, fun k o _ hk _ => (hb1.block k (Array.getElem?_eq_some_iff.1 hk).1).trans hk⟩
    exact (hk1.trans hk2).trans ((KeepsOthers.setCell _ _ _).from _)
  · constructor
    · rw [Below.heap_setCell _ _ _ _ (by show g + 1 ≠ g; omega)]; exact hlow _ (by omega)
    · rw [Below.heap_setCell _ _ _ _ (by show g + 1 + 1 ≠ g; omega)]; exact hlow _ (by omega)

theorem ow_put {W : World} {B D : Nat} {v : Value} {l : List UInt8} {o : Obj} (h : Ow W B v l) (hK : W.heap[D]? = some o) (ho : o.isCells = false) (o' : Obj) : Ow (W.putObj D o') B v l :=
  RowO.keep h fun k hk => World.putObj_heap_other (by
    rintro rfl
    rcases h.2 with ⟨rfl, _⟩ | ⟨g, cap, cur, fz, rfl, _, hh, _⟩
    · cases hk
    · cases hk; rw [hh] at hK; cases hK; cases ho)

/-- what the last append comes to -/
theorem wh_end {w W w1 : World} {out L : List UInt8} {v v1 : Value} {g D : Nat} (hg : g = w.heap.size) (hv : W.heap[g]? = some (.cells #[v] 43 (0, 0))) (ho : Ow W (w.heap.size + 3) v out) (hB : Below w.heap.size w W) (hsW : w.heap.size + 3 ≤ W.heap.size)
    (hK : W.heap[D]? = some (.deferred (some []))) (ho1 : Ow w1 W.drew.heap.size v1 L) (hb1 : Below W.drew.heap.size W.drew w1) (hsz : out.length + L.length ≤ 70368744177664) :
    ∃ ao1 c1 v2 w2, v1 = .slice ao1 L.length c1 ∧ (Builtin.append_ #[43, 43] 43 #[v, .slice ao1 L.length c1]).run Tryd.prog w1 = .ok v2 w2 ∧ w1.cell? ⟨g, 0, none⟩ = some v ∧
      w2.heap[D]? = some (.deferred (some [])) ∧ Ow w2 w.heap.size v2 (out ++ L) ∧ Below w.heap.size w w2 := by
  obtain ⟨ao1, c1, hv1, hbs1, hle, hof, hnc⟩ := ho1.bs'
  have hs1 : w.heap.size + 3 ≤ w1.heap.size := Nat.le_trans hsW hb1.size
  have ho' : Ow w1 (w.heap.size + 3) v out := RowO.keep ho fun k hk => hb1.block k (ho.ge k hk).2
  have hv' : w1.heap[g]? = some (.cells #[v] 43 (0, 0)) := (hb1.block g (by show g < W.heap.size; omega)).trans hv
  have hK1 : w1.heap[D]? = some (.deferred (some [])) := (hb1.block D (Array.getElem?_eq_some_iff.1 hK).1).trans hK
  obtain ⟨v2, w2, hrun, ho2, hg2, -⟩ := run_app w1 (w.heap.size + 3) 43 v out ho' ao1 L.length c1 L rfl hbs1 hnc hsz hs1
  refine ⟨ao1, c1, v2, w2, hv1, hrun, (blk_cell hv' 0).trans rfl, ?_, ho2.mono (by omega), ?_⟩
  · refine (hg2.block D (Array.getElem?_eq_some_iff.1 hK1).1 ?_).trans hK1
    intro e
    rcases ho'.2 with ⟨rfl, _⟩ | ⟨gg, cap, cur, fz, rfl, _, hh, _⟩
    · cases e
    · cases e; rw [hh] at hK1; cases hK1
  · exact (hB.trans ((Below.drew (Below.refl w.heap.size W)).trans (hb1.mono (by show w.heap.size ≤ W.heap.size; omega)))).grown hg2 (by omega) (fun k hk => by have := (ho'.ge k hk).1; omega)

set_option maxRecDepth 100000 in
set_option maxHeartbeats 2000000 in
theorem Whole_some (w : World) (hT : Tz16 w) (b off : Nat) (l : List UInt8) (c : Nat) (hl0 : 0 < l.length) (hl : l.length ≤ 1048576) (hcap : l.length ≤ c) (hb : Bs w (some ⟨b, off, none⟩) l) (n : Nat) (hn : 1 ≤ n) (hn2 : n ≤ 9223372036854775807) :
    Calls Tryd.prog 25 #[.slice (some ⟨b, off, none⟩) l.length c, .int .i64 n] w fun e w' => ∃ v', e = .returned (.tuple #[v', .int .i64 0]) ∧ Ow w' w.heap.size v' (wholeL l n) ∧ Below w.heap.size w w' := by
  refine (callsIn_wide (n := 9)).1 ?_
  refine callsIn_of_wp_marks Tryd.func25 rfl trivial ?_ rfl
  simp only [Tryd.ntmps25, List.size_toArray, List.length_cons, List.length_nil, Nat.reduceAdd, Nat.reduceSub, Array.replicate_succ, Array.replicate_zero, List.push_toArray, List.append_toArray, List.nil_append, List.cons_append]
  have hd1 : decide ((n : Int) < 1) = false := decide_eq_false (by omega)
  gi_wp2_with (refine ⟨trivial, ?_⟩; gi_at_call 44; refine (callsIn_wide.2 (Chunk_calls _ _ _ _ (by omega) _)).mono ?_; rintro e w' ⟨rfl, rfl⟩)
  obtain ⟨W0, hW0⟩ : ∃ W0, ((w.alloc (Obj.cells #[Value.slice none 0 0] 43)).alloc (Obj.cells #[Value.slice (some ⟨b, off, none⟩) l.length c] 43)).alloc (Obj.cells #[Value.int .i64 n] 3) = W0 := ⟨_, rfl⟩
  have hsz : W0.heap.size = w.heap.size + 3 := by rw [← hW0]; simp
  have hb0 : Below w.heap.size w W0 := by rw [← hW0]; exact (((Below.refl _ w).alloc (Nat.le_refl _) _).alloc (by simp) _).alloc (by simp; omega) _
  have k0 : W0.heap[w.heap.size]? = some (.cells #[.slice none 0 0] 43 (0, 0)) := by
    rw [← hW0, Below.heap_alloc _ _ _ (by simp; omega), Below.heap_alloc _ _ _ (by simp)]; exact heap_alloc_new w _
  have k1 : W0.cell? ⟨w.heap.size + 1, 0, none⟩ = some (.slice (some ⟨b, off, none⟩) l.length c) := by
    have h := heap_alloc_new (w.alloc (Obj.cells #[Value.slice none 0 0] 43)) (Obj.cells #[Value.slice (some ⟨b, off, none⟩) l.length c] 43)
    rw [World.size_alloc] at h
    refine (blk_cell (cs := #[.slice (some ⟨b, off, none⟩) l.length c]) (t := 43) ?_ 0).trans rfl
    rw [← hW0, Below.heap_alloc _ _ _ (by simp)]
    exact h
  have k2 : W0.cell? ⟨w.heap.size + 2, 0, none⟩ = some (.int .i64 n) := by
    have h := heap_alloc_new ((w.alloc (Obj.cells #[Value.slice none 0 0] 43)).alloc (Obj.cells #[Value.slice (some ⟨b, off, none⟩) l.length c] 43)) (Obj.cells #[Value.int .i64 n] 3)
    rw [World.size_alloc, World.size_alloc] at h
    refine (blk_cell (cs := #[.int .i64 n]) (t := 3) ?_ 0).trans rfl
    rw [← hW0]
    exact h
  rw [hW0]
  clear hW0
  have hI0 : WhI w l [] W0 := ⟨_, k0, Ow.nil _ _, hb0, by omega⟩
  refine wpIn_rangeFunc_ownG rfl (by omega) (gf := 60) (lb := #[.pointer (some ⟨w.heap.size + 1, 0, none⟩), .pointer (some ⟨w.heap.size + 1 + 1, 0, none⟩)]) rfl trivial (enters_of Tryd.func60 (by kernel_rfl) rfl)
    (Chunk_stops 8 (by omega) (w.heap.size + 1) b off l.length c (by omega) hcap n hn hn2 W0 (by omega) k1 k2) KpG.trans (fun W l _ o' hl _ _ _ => KpG.put W l o' (by omega)) (Below.refl _ _) (fun _ => rfl)
    (WhI w l) (fun _ _ _ => False) (by rw [hsz]; exact WhI.own w l) (fun _ _ _ _ _ hs _ _ => hs) hI0
    (fun x => { tmps := #[.slice (some ⟨b, off, none⟩) l.length c, .int .i64 n, undef, undef, .slice none 0 0, .int .i64 0, .pointer (some ⟨w.heap.size, 0, none⟩), .slice (some ⟨b, off + x.1.1, none⟩) x.1.2 x.1.2, .int .i64 n, .bool false, .slice (some ⟨b, off, none⟩) l.length c, .int .i64 n,
      .func (.func 60) #[] #[.pointer (some ⟨w.heap.size + 1, 0, none⟩), .pointer (some ⟨w.heap.size + 1 + 1, 0, none⟩)], .slice (some ⟨b, off + x.1.1, none⟩) x.1.2 x.1.2, undef, undef, undef, undef, undef, undef, undef], defers := [] }) ?assign ?body ?done ?stop
  case assign =>
    intro l' x W K hK
    gi_wp2
    exact hK
  case body =>
    rintro l' pre x W ⟨v, hv, ho, hB, hsW⟩ hlt
    obtain ⟨⟨i, m⟩, hx⟩ := x
    dsimp only at hx ⊢
    have hc := blk_cell hv 0
    have hf := blk_free hv 0
    have hb1 : Bs W (some ⟨b, off + i, none⟩) ((l.drop i).take m) := ((hb.below hB).drop i).take m
    have hlm : ((l.drop i).take m).length = m := by rw [List.length_take, List.length_drop]; omega
    have hmx : Tryd.prog.follows .mixedOrders = true := by kernel_rfl
    have hT1 : Tz16 W.drew := (hB.drew.cell (p := ⟨7, 15, none⟩) (World.block_lt_of_cell? w _ hT)).trans hT
    have hPut := Put_calls W.drew hT1 (some ⟨b, off + i, none⟩) ((l.drop i).take m) m (by omega) hb1
    rw [hlm] at hPut
    have HPut := Lib.hid hPut
    have HV := Lib.hid hv
    have HO := Lib.hid ho
    have HB := Lib.hid hB
    have HLen : Hid ((outOf l pre).length ≤ pre.length * 1048592) := Lib.hid (outOf_len l hl pre)
    have HSt := Lib.hid (fun w1 v1 ho1 hb1 => wh_step (w1 := w1) (v1 := v1) (L := putL ((l.drop i).take m)) rfl hv ho hB hsW ho1 hb1 (by
      have h1 := putL_len ((l.drop i).take m) (by rw [hlm]; omega)
      have h2 := HLen.out
      omega))
    clear hPut hb1 hT1 hv ho hB hlm
    gi_wp2
    refine wpIn_region_any hmx ?_
    change wpAnyIn _ _ _ _ _ _ _ _ _ (World.drew _)
    refine any_two (i := 0) (j := 1) (by kernel_rfl) rfl rfl (fun K hK => ?_) (fun K hK => ?_)
    · go_simp
      refine hK _ _ ?_
      clear hK K
      refine any_one (i := 1) (by kernel_rfl) rfl (fun K hK => ?_)
      go_simp
      refine hK _ _ ?_
      clear hK K
      refine any_one (i := 2) (by kernel_rfl) rfl (fun K hK => ?_)
      go_simp
      refine ⟨trivial, (CallsIn.inRound l' (callsIn_wide.2 HPut.out)).mono ?_⟩
      rintro e w1 ⟨v1, rfl, ho1, hb1⟩
      obtain ⟨ao1, c1, ao2, n2, c2, w2, rfl, hrun, hc1, hc2, hf2, hR⟩ := HSt.out w1 v1 ho1 hb1
      have HRes := Lib.hid hR
      have HRun := Lib.hid hrun
      clear hR ho1 hb1 hrun
      dsimp only
      refine hK _ _ ?_
      clear hK K
      refine any_one (i := 3) (by kernel_rfl) rfl (fun K hK => ?_)
      refine step_run_in (fun _ => trivial) rfl _ _ rfl rfl rfl HRun.out ?_
      refine hK _ _ ?_
      clear hK K
      refine any_one (i := 4) (by kernel_rfl) rfl (fun K hK => ?_)
      go_simp
      refine hK _ _ ?_
      clear hK K
      refine wpAnyIn_done (by kernel_rfl) ?_ _
      obtain ⟨r1, r2, r3, r4, r5, r6⟩ := HRes.out
      exact ⟨by rw [hsz]; exact r5, r6, _, r1, by rw [outOf_snoc]; exact r2, r3, r4⟩
    · go_simp
      refine hK _ _ ?_
      clear hK K
      refine any_two (i := 0) (j := 2) (by kernel_rfl) rfl rfl (fun K hK => ?_) (fun K hK => ?_)
      · go_simp
        refine hK _ _ ?_
        clear hK K
        refine any_one (i := 2) (by kernel_rfl) rfl (fun K hK => ?_)
        go_simp
        refine ⟨trivial, (CallsIn.inRound l' (callsIn_wide.2 HPut.out)).mono ?_⟩
        rintro e w1 ⟨v1, rfl, ho1, hb1⟩
        obtain ⟨ao1, c1, ao2, n2, c2, w2, rfl, hrun, hc1, hc2, hf2, hR⟩ := HSt.out w1 v1 ho1 hb1
        have HRes := Lib.hid hR
        have HRun := Lib.hid hrun
        clear hR ho1 hb1 hrun
        dsimp only
        refine hK _ _ ?_
        clear hK K
        refine any_one (i := 3) (by kernel_rfl) rfl (fun K hK => ?_)
        refine step_run_in (fun _ => trivial) rfl _ _ rfl rfl rfl HRun.out ?_
        refine hK _ _ ?_
        clear hK K
        refine any_one (i := 4) (by kernel_rfl) rfl (fun K hK => ?_)
        go_simp
        refine hK _ _ ?_
        clear hK K
        refine wpAnyIn_done (by kernel_rfl) ?_ _
        obtain ⟨r1, r2, r3, r4, r5, r6⟩ := HRes.out
        exact ⟨by rw [hsz]; exact r5, r6, _, r1, by rw [outOf_snoc]; exact r2, r3, r4⟩
      · go_simp
        refine ⟨trivial, (CallsIn.inRound l' (callsIn_wide.2 HPut.out)).mono ?_⟩
        rintro e w1 ⟨v1, rfl, ho1, hb1⟩
        obtain ⟨ao1, c1, ao2, n2, c2, w2, rfl, hrun, hc1, hc2, hf2, hR⟩ := HSt.out w1 v1 ho1 hb1
        have HRes := Lib.hid hR
        have HRun := Lib.hid hrun
        clear hR ho1 hb1 hrun
        dsimp only
        refine hK _ _ ?_
        clear hK K
        refine any_one (i := 0) (by kernel_rfl) rfl (fun K hK => ?_)
        go_simp
        refine hK _ _ ?_
        clear hK K
        refine any_one (i := 3) (by kernel_rfl) rfl (fun K hK => ?_)
        refine step_run_in (fun _ => trivial) rfl _ _ rfl rfl rfl HRun.out ?_
        refine hK _ _ ?_
        clear hK K
        refine any_one (i := 4) (by kernel_rfl) rfl (fun K hK => ?_)
        go_simp
        refine hK _ _ ?_
        clear hK K
        refine wpAnyIn_done (by kernel_rfl) ?_ _
        obtain ⟨r1, r2, r3, r4, r5, r6⟩ := HRes.out
        exact ⟨by rw [hsz]; exact r5, r6, _, r1, by rw [outOf_snoc]; exact r2, r3, r4⟩
  case done =>
    rintro D ys W hD rfl ⟨v, hv, ho, hB, hsW⟩ hK
    have hc := blk_cell hv 0
    have hmx : Tryd.prog.follows .mixedOrders = true := by kernel_rfl
    gi_wp2
    have HLast := Lib.hid (Last_calls W.drew)
    have HLen : Hid ((outOf l (cidx n l.length l.length 0)).length ≤ l.length * 1048592) := Lib.hid (by
      exact Nat.le_trans (outOf_len l hl (cidx n l.length l.length 0)) (Nat.mul_le_mul_right _ (cidx_len n l.length l.length 0)))
    have HSt := Lib.hid (fun w1 v1 ho1 hb1 => wh_end (w1 := w1) (v1 := v1) (L := lastL) (D := D) rfl hv ho hB hsW hK ho1 hb1 (by
      have h2 := HLen.out
      have h3 : lastL.length = 5 := rfl
      omega))
    clear hv ho hB hK
    refine wpIn_region_any hmx ?_
    change wpAnyIn _ _ _ _ _ _ _ _ _ (World.drew _)
    refine any_two (i := 0) (j := 1) (by kernel_rfl) rfl rfl (fun K hK' => ?_) (fun K hK' => ?_)
    · go_simp
      refine hK' _ _ ?_
      clear hK' K
      refine any_one (i := 1) (by kernel_rfl) rfl (fun K hK' => ?_)
      go_simp
      refine ⟨trivial, (callsIn_wide.2 HLast.out).mono ?_⟩
      rintro e w1 ⟨v1, rfl, ho1, hb1⟩
      obtain ⟨ao1, c1, v2, w2, rfl, hrun, hc1, hR⟩ := HSt.out w1 v1 ho1 hb1
      have HRes := Lib.hid hR
      have HRun := Lib.hid hrun
      clear hR ho1 hb1 hrun
      dsimp only
      refine hK' _ _ ?_
      clear hK' K
      refine any_one (i := 2) (by kernel_rfl) rfl (fun K hK' => ?_)
      refine step_run_in (fun _ => trivial) rfl _ _ rfl rfl rfl HRun.out ?_
      refine hK' _ _ ?_
      clear hK' K
      refine any_one (i := 3) (by kernel_rfl) rfl (fun K hK' => ?_)
      go_simp
      refine hK' _ _ ?_
      clear hK' K
      refine any_one (i := 4) (by kernel_rfl) rfl (fun K hK' => ?_)
      go_simp
      refine hK' _ _ ?_
      clear hK' K
      refine wpAnyIn_done (by kernel_rfl) ?_ _
      obtain ⟨r1, r2, r3⟩ := HRes.out
      gi_wp2
      refine ⟨by simp, .inl ⟨_, _, rfl, run_takeDeferred r1, ?_⟩⟩
      exact ⟨.tuple #[v2, .int .i64 0], by simp [results, Tryd.results25, go_sem], v2, rfl, ow_put r2 r1 rfl _, r3.trans (belowK_b (w := w) (Nat.le_refl _) w2 D _ _ (by omega) r1 rfl rfl)⟩
    · go_simp
      refine ⟨trivial, (callsIn_wide.2 HLast.out).mono ?_⟩
      rintro e w1 ⟨v1, rfl, ho1, hb1⟩
      obtain ⟨ao1, c1, v2, w2, rfl, hrun, hc1, hR⟩ := HSt.out w1 v1 ho1 hb1
      have HRes := Lib.hid hR
      have HRun := Lib.hid hrun
      clear hR ho1 hb1 hrun
      dsimp only
      refine hK' _ _ ?_
      clear hK' K
      refine any_one (i := 0) (by kernel_rfl) rfl (fun K hK' => ?_)
      go_simp
      refine hK' _ _ ?_
      clear hK' K
      refine any_one (i := 2) (by kernel_rfl) rfl (fun K hK' => ?_)
      refine step_run_in (fun _ => trivial) rfl _ _ rfl rfl rfl HRun.out ?_
      refine hK' _ _ ?_
      clear hK' K
      refine any_one (i := 3) (by kernel_rfl) rfl (fun K hK' => ?_)
      go_simp
      refine hK' _ _ ?_
      clear hK' K
      refine any_one (i := 4) (by kernel_rfl) rfl (fun K hK' => ?_)
      go_simp
      refine hK' _ _ ?_
      clear hK' K
      refine wpAnyIn_done (by kernel_rfl) ?_ _
      obtain ⟨r1, r2, r3⟩ := HRes.out
      gi_wp2
      refine ⟨by simp, .inl ⟨_, _, rfl, run_takeDeferred r1, ?_⟩⟩
      exact ⟨.tuple #[v2, .int .i64 0], by simp [results, Tryd.results25, go_sem], v2, rfl, ow_put r2 r1 rfl _, r3.trans (belowK_b (w := w) (Nat.le_refl _) w2 D _ _ (by omega) r1 rfl rfl)⟩
  case stop =>
    rintro D c pre W _ _ h _
    exact h.elim
set_option maxRecDepth 100000 in
set_option maxHeartbeats 2000000 in
theorem Whole_nil (w : World) (ao : Option Addr) (l : List UInt8) (hl : l = []) (c : Nat) (n : Nat) (hn : 1 ≤ n) (hn2 : n ≤ 9223372036854775807) :
    Calls Tryd.prog 25 #[.slice ao 0 c, .int .i64 n] w fun e w' => ∃ v', e = .returned (.tuple #[v', .int .i64 0]) ∧ Ow w' w.heap.size v' (wholeL l n) ∧ Below w.heap.size w w' := by
  subst hl
  refine (callsIn_wide (n := 9)).1 ?_
  refine callsIn_of_wp_marks Tryd.func25 rfl trivial ?_ rfl
  simp only [Tryd.ntmps25, List.size_toArray, List.length_cons, List.length_nil, Nat.reduceAdd, Nat.reduceSub, Array.replicate_succ, Array.replicate_zero, List.push_toArray, List.append_toArray, List.nil_append, List.cons_append]
  have hd1 : decide ((n : Int) < 1) = false := decide_eq_false (by omega)
  gi_wp2_with (refine ⟨trivial, ?_⟩; gi_at_call 44; refine (callsIn_wide.2 (Chunk_calls _ _ _ _ (by omega) _)).mono ?_; rintro e w' ⟨rfl, rfl⟩)
  obtain ⟨W0, hW0⟩ : ∃ W0, ((w.alloc (Obj.cells #[Value.slice none 0 0] 43)).alloc (Obj.cells #[Value.slice ao 0 c] 43)).alloc (Obj.cells #[Value.int .i64 n] 3) = W0 := ⟨_, rfl⟩
  have hsz : W0.heap.size = w.heap.size + 3 := by rw [← hW0]; simp
  have hb0 : Below w.heap.size w W0 := by rw [← hW0]; exact (((Below.refl _ w).alloc (Nat.le_refl _) _).alloc (by simp) _).alloc (by simp; omega) _
  have k0 : W0.heap[w.heap.size]? = some (.cells #[.slice none 0 0] 43 (0, 0)) := by
    rw [← hW0, Below.heap_alloc _ _ _ (by simp; omega), Below.heap_alloc _ _ _ (by simp)]; exact heap_alloc_new w _
  have k1 : W0.cell? ⟨w.heap.size + 1, 0, none⟩ = some (.slice ao 0 c) := by
    have h := heap_alloc_new (w.alloc (Obj.cells #[Value.slice none 0 0] 43)) (Obj.cells #[Value.slice ao 0 c] 43)
    rw [World.size_alloc] at h
    refine (blk_cell (cs := #[.slice ao 0 c]) (t := 43) ?_ 0).trans rfl
    rw [← hW0, Below.heap_alloc _ _ _ (by simp)]
    exact h
  have k2 : W0.cell? ⟨w.heap.size + 2, 0, none⟩ = some (.int .i64 n) := by
    have h := heap_alloc_new ((w.alloc (Obj.cells #[Value.slice none 0 0] 43)).alloc (Obj.cells #[Value.slice ao 0 c] 43)) (Obj.cells #[Value.int .i64 n] 3)
    rw [World.size_alloc, World.size_alloc] at h
    refine (blk_cell (cs := #[.int .i64 n]) (t := 3) ?_ 0).trans rfl
    rw [← hW0]
    exact h
  rw [hW0]
  clear hW0
  have hI0 : WhI w [] [] W0 := ⟨_, k0, Ow.nil _ _, hb0, by omega⟩
  refine wpIn_rangeFunc_ownG rfl (by omega) (gf := 60) (lb := #[.pointer (some ⟨w.heap.size + 1, 0, none⟩), .pointer (some ⟨w.heap.size + 1 + 1, 0, none⟩)]) rfl trivial (enters_of Tryd.func60 (by kernel_rfl) rfl)
    (Chunk_stops_nil 8 (w.heap.size + 1) 0 0 ao c W0 (by omega) k1) KpG.trans (fun W l _ o' hl _ _ _ => KpG.put W l o' (by omega)) (Below.refl _ _) (fun _ => rfl)
    (WhI w []) (fun _ _ _ => False) (by rw [hsz]; exact WhI.own w []) (fun _ _ _ _ _ hs _ _ => hs) hI0
    (fun x => { tmps := #[.slice ao 0 c, .int .i64 n, undef, undef, .slice none 0 0, .int .i64 0, .pointer (some ⟨w.heap.size, 0, none⟩), .slice (some ⟨0, x.1.1, none⟩) x.1.2 x.1.2, .int .i64 n, .bool false, .slice ao 0 c, .int .i64 n,
      .func (.func 60) #[] #[.pointer (some ⟨w.heap.size + 1, 0, none⟩), .pointer (some ⟨w.heap.size + 1 + 1, 0, none⟩)], .slice (some ⟨0, x.1.1, none⟩) x.1.2 x.1.2, undef, undef, undef, undef, undef, undef, undef], defers := [] }) ?assign ?body ?done ?stop
  case assign =>
    intro l' x W K hK
    gi_wp2
    exact hK
  case body =>
    intro l' pre x W _ hlt
    exact absurd hlt (Nat.not_lt_zero _)
  case done =>
    rintro D ys W hD rfl ⟨v, hv, ho, hB, hsW⟩ hK
    have hc := blk_cell hv 0
    have hmx : Tryd.prog.follows .mixedOrders = true := by kernel_rfl
    gi_wp2
    have HLast := Lib.hid (Last_calls W.drew)
    have HSt := Lib.hid (fun w1 v1 ho1 hb1 => wh_end (w1 := w1) (v1 := v1) (L := lastL) (D := D) rfl hv ho hB hsW hK ho1 hb1 (by
      have h2 : (outOf [] ([] : List { x : Nat × Nat // x.1 + x.2 ≤ ([] : List UInt8).length })).length = 0 := rfl
      have h3 : lastL.length = 5 := rfl
      omega))
    clear hv ho hB hK
    refine wpIn_region_any hmx ?_
    change wpAnyIn _ _ _ _ _ _ _ _ _ (World.drew _)
    refine any_two (i := 0) (j := 1) (by kernel_rfl) rfl rfl (fun K hK' => ?_) (fun K hK' => ?_)
    · go_simp
      refine hK' _ _ ?_
      clear hK' K
      refine any_one (i := 1) (by kernel_rfl) rfl (fun K hK' => ?_)
      go_simp
      refine ⟨trivial, (callsIn_wide.2 HLast.out).mono ?_⟩
      rintro e w1 ⟨v1, rfl, ho1, hb1⟩
      obtain ⟨ao1, c1, v2, w2, rfl, hrun, hc1, hR⟩ := HSt.out w1 v1 ho1 hb1
      have HRes := Lib.hid hR
      have HRun := Lib.hid hrun
      clear hR ho1 hb1 hrun
      dsimp only
      refine hK' _ _ ?_
      clear hK' K
      refine any_one (i := 2) (by kernel_rfl) rfl (fun K hK' => ?_)
      refine step_run_in (fun _ => trivial) rfl _ _ rfl rfl rfl HRun.out ?_
      refine hK' _ _ ?_
      clear hK' K
      refine any_one (i := 3) (by kernel_rfl) rfl (fun K hK' => ?_)
      go_simp
      refine hK' _ _ ?_
      clear hK' K
      refine any_one (i := 4) (by kernel_rfl) rfl (fun K hK' => ?_)
      go_simp
      refine hK' _ _ ?_
      clear hK' K
      refine wpAnyIn_done (by kernel_rfl) ?_ _
      obtain ⟨r1, r2, r3⟩ := HRes.out
      gi_wp2
      refine ⟨by simp, .inl ⟨_, _, rfl, run_takeDeferred r1, ?_⟩⟩
      exact ⟨.tuple #[v2, .int .i64 0], by simp [results, Tryd.results25, go_sem], v2, rfl, ow_put r2 r1 rfl _, r3.trans (belowK_b (w := w) (Nat.le_refl _) w2 D _ _ (by omega) r1 rfl rfl)⟩
    · go_simp
      refine ⟨trivial, (callsIn_wide.2 HLast.out).mono ?_⟩
      rintro e w1 ⟨v1, rfl, ho1, hb1⟩
      obtain ⟨ao1, c1, v2, w2, rfl, hrun, hc1, hR⟩ := HSt.out w1 v1 ho1 hb1
      have HRes := Lib.hid hR
      have HRun := Lib.hid hrun
      clear hR ho1 hb1 hrun
      dsimp only
      refine hK' _ _ ?_
      clear hK' K
      refine any_one (i := 0) (by kernel_rfl) rfl (fun K hK' => ?_)
      go_simp
      refine hK' _ _ ?_
      clear hK' K
      refine any_one (i := 2) (by kernel_rfl) rfl (fun K hK' => ?_)
      refine step_run_in (fun _ => trivial) rfl _ _ rfl rfl rfl HRun.out ?_
      refine hK' _ _ ?_
      clear hK' K
      refine any_one (i := 3) (by kernel_rfl) rfl (fun K hK' => ?_)
      go_simp
      refine hK' _ _ ?_
      clear hK' K
      refine any_one (i := 4) (by kernel_rfl) rfl (fun K hK' => ?_)
      go_simp
      refine hK' _ _ ?_
      clear hK' K
      refine wpAnyIn_done (by kernel_rfl) ?_ _
      obtain ⟨r1, r2, r3⟩ := HRes.out
      gi_wp2
      refine ⟨by simp, .inl ⟨_, _, rfl, run_takeDeferred r1, ?_⟩⟩
      exact ⟨.tuple #[v2, .int .i64 0], by simp [results, Tryd.results25, go_sem], v2, rfl, ow_put r2 r1 rfl _, r3.trans (belowK_b (w := w) (Nat.le_refl _) w2 D _ _ (by omega) r1 rfl rfl)⟩
  case stop =>
    rintro D c pre W _ _ h _
    exact h.elim
set_option maxHeartbeats 400000 in
theorem Whole_err (w : World) (v : Value) (n : Int) (hn : n < 1) :
    Calls Tryd.prog 25 #[v, .int .i64 n] w fun e w' => e = .returned (.tuple #[.slice none 0 0, .int .i64 1]) ∧ w = w' := by
  go_enter Tryd.func25, Tryd.ntmps25
  go_wp2
  go_ret2
  exact ⟨rfl, rfl⟩

/-- a body of any bytes, in chunks of any size -/
theorem Whole_calls (w : World) (hT : Tz16 w) (ao : Option Addr) (l : List UInt8) (c : Nat) (hl : l.length ≤ 1048576) (hcap : l.length ≤ c) (hb : Bs w ao l) (n : Nat) (hn : 1 ≤ n) (hn2 : n ≤ 9223372036854775807) :
    Calls Tryd.prog 25 #[.slice ao l.length c, .int .i64 n] w fun e w' => ∃ v', e = .returned (.tuple #[v', .int .i64 0]) ∧ Ow w' w.heap.size v' (wholeL l n) ∧ Below w.heap.size w w' := by
  by_cases h0 : l = []
  · have := Whole_nil w ao l h0 c n hn hn2
    rw [show l.length = 0 from by rw [h0]; rfl]
    exact this
  · obtain ⟨b, off, rfl⟩ := hb.some_of (List.length_pos_iff.2 h0)
    exact Whole_some w hT b off l c (List.length_pos_iff.2 h0) hl hcap hb n hn hn2
end Go.Proofs.YteneioapchhehaaDoor
