/- What all the proofs of this family share: how the world may have changed (Ch), blocks, bytes that a slice reads as (Bs), bytes that the call owns (Ow). -/
import Derived.Test.YtiaafndkbcpbdaaDoorProg
import Derived.WalkKit
import Derived.KernelRfl
import Derived.Lib.Hide
import Derived.Deep.QuietTactic
import Derived.BigQuiet
import Derived.WalkLawsBesides
import Derived.WalkSpells
import Derived.Deep.DeepCutAuto
import Derived.Test.YtiaafndkbcpbdaaDoorOwn
namespace Go.Proofs.YtiaafndkbcpbdaaDoor
open Go.RowKit

theorem ret1 {a b : Value} (h : a = b) : Ending.returned a = .returned b := by rw [h]
theorem ret2 {a b c d : Value} (h1 : a = c) (h2 : b = d) : Ending.returned (.tuple #[a, b]) = .returned (.tuple #[c, d]) := by rw [h1, h2]
theorem ret3 {a b x c d y : Value} (h1 : a = c) (h2 : b = d) (h3 : x = y) : Ending.returned (.tuple #[a, b, x]) = .returned (.tuple #[c, d, y]) := by rw [h1, h2, h3]
theorem iEq {k : IntKind} {a b : Int} (h : a = b) : Value.int k a = .int k b := by rw [h]
theorem bEq {a b : Bool} (h : a = b) : Value.bool a = .bool b := by rw [h]

/-- changes only in blocks of S, and new blocks -/
structure Ch (S : Nat → Prop) (w w' : World) : Prop where
  os : w'.os = w.os
  tape : w'.tape = w.tape
  output : w'.output = w.output
  size : w.heap.size ≤ w'.heap.size
  block : ∀ k, k < w.heap.size → ¬ S k → w'.heap[k]? = w.heap[k]?

theorem Ch.refl (S : Nat → Prop) (w : World) : Ch S w w := ⟨rfl, rfl, rfl, Nat.le_refl _, fun _ _ _ => rfl⟩
theorem Ch.trans {S : Nat → Prop} {a b c : World} (h : Ch S a b) (k : Ch S b c) : Ch S a c :=
  ⟨k.os.trans h.os, k.tape.trans h.tape, k.output.trans h.output, Nat.le_trans h.size k.size, fun i hi hs => (k.block i (Nat.lt_of_lt_of_le hi h.size) hs).trans (h.block i hi hs)⟩
theorem Ch.mono {S T : Nat → Prop} {a b : World} (h : Ch S a b) (hST : ∀ k, S k → T k) : Ch T a b := ⟨h.os, h.tape, h.output, h.size, fun i hi hs => h.block i hi (fun x => hs (hST _ x))⟩
theorem Ch.drew {S : Nat → Prop} {a w : World} (h : Ch S a w) : Ch S a w.drew := ⟨h.os, h.tape, h.output, h.size, h.block⟩
theorem Ch.set {S : Nat → Prop} {a w : World} (h : Ch S a w) {p : Addr} (hp : S p.block ∨ a.heap.size ≤ p.block) (u : Value) : Ch S a (w.setCell p u) :=
  ⟨h.os, h.tape, h.output, by simpa [World.setCell] using h.size, fun k hk hs => by
    rw [Below.heap_setCell _ _ _ _ (by rintro rfl; rcases hp with hp | hp; exact hs hp; omega)]; exact h.block k hk hs⟩
theorem Ch.alloc {S : Nat → Prop} {a w : World} (h : Ch S a w) (o : Obj) : Ch S a (w.alloc o) :=
  ⟨h.os, h.tape, h.output, by have := h.size; simp; omega, fun k hk hs => by rw [Below.heap_alloc _ _ _ (by have := h.size; omega)]; exact h.block k hk hs⟩

theorem blk_cell {w : World} {g : Nat} {cs : Array Value} {t : TypeId} (h : w.heap[g]? = some (.cells cs t (0, 0))) (i : Nat) : w.cell? ⟨g, i, none⟩ = cs[i]? := by simp [World.cell?, h]
theorem blk_free {w : World} {g : Nat} {cs : Array Value} {t : TypeId} (h : w.heap[g]? = some (.cells cs t (0, 0))) (i : Nat) : w.frozen? ⟨g, i, none⟩ = false := by simp [World.frozen?, h]
theorem blk_set {w : World} {g : Nat} {cs : Array Value} {t : TypeId} (h : w.heap[g]? = some (.cells cs t (0, 0))) (i : Nat) (u : Value) : (w.setCell ⟨g, i, none⟩ u).heap[g]? = some (.cells (cs.setIfInBounds i u) t (0, 0)) := by
  simp [World.setCell, Array.getElem?_modify, h]

theorem Ch.below {S : Nat → Prop} {a w w' : World} (h : Ch S a w) (hb : Below w.heap.size w w') : Ch S a w' :=
  ⟨hb.os.trans h.os, hb.tape.trans h.tape, hb.output.trans h.output, Nat.le_trans h.size hb.size, fun k hk hs => (hb.block k (Nat.lt_of_lt_of_le hk h.size)).trans (h.block k hk hs)⟩
theorem ch_set1 (w : World) (g a : Nat) (u : Value) : Ch (· = g) w (w.setCell ⟨g, a, none⟩ u) := Ch.set (S := (· = g)) (Ch.refl _ _) (.inl rfl) _
theorem ch_set2 (w : World) (g a b : Nat) (u v : Value) : Ch (· = g) w ((w.setCell ⟨g, a, none⟩ u).setCell ⟨g, b, none⟩ v) := Ch.set (S := (· = g)) (ch_set1 w g a u) (.inl rfl) _

/-- a global error variable: it holds some error -/
def ErrVar (g : Nat) (w : World) : Prop := ∃ ev, w.cell? ⟨g, 0, none⟩ = some ev ∧ (ev = .nilIface ∨ ∃ te pe, ev = .iface te pe)


/-- a byte as a value -/
abbrev bv (b : UInt8) : Value := .int .u8 (b.toNat : Int)

/-- the slice at an address, of length l.length, reads as these bytes -/
def Bs (w : World) (ao : Option Addr) (l : List UInt8) : Prop :=
  (ao = none → l = []) ∧ ∀ ad, ao = some ad → ∀ j (b : UInt8), l[j]? = some b → w.cell? (ad.add j) = some (bv b)

theorem Bs.nil (w : World) : Bs w none [] := ⟨fun _ => rfl, nofun⟩
theorem Bs.empty (w : World) (ao : Option Addr) : Bs w ao [] := ⟨fun _ => rfl, fun ad _ j b h => by simp at h⟩
theorem Bs.of_plain {w : World} {b off : Nat} {l : List UInt8} (h : ∀ j (x : UInt8), l[j]? = some x → w.cell? ⟨b, off + j, none⟩ = some (bv x)) : Bs w (some ⟨b, off, none⟩) l :=
  ⟨nofun, fun ad had => by cases had; intro j x hx; rw [Addr.add_lit]; exact h j x hx⟩
theorem Bs.plain {w : World} {b off : Nat} {l : List UInt8} (h : Bs w (some ⟨b, off, none⟩) l) : ∀ j (x : UInt8), l[j]? = some x → w.cell? ⟨b, off + j, none⟩ = some (bv x) := by
  intro j x hx
  have := h.2 _ rfl j x hx
  rw [Addr.add_lit] at this
  exact this
theorem Bs.spot {w : World} {ad : Addr} {l : List UInt8} (h : Bs w (some ad) l) (hl : 0 < l.length) : ad.spot = none := by
  obtain ⟨b, off, sp⟩ := ad
  have := World.cell?_spot (h.2 _ rfl 0 _ (List.getElem?_eq_getElem hl))
  simpa [Addr.add] using this
theorem Bs.cell {w : World} {b off : Nat} {l : List UInt8} (h : Bs w (some ⟨b, off, none⟩) l) (j : Nat) (hj : j < l.length) : w.cell? ⟨b, off + j, none⟩ = some (bv l[j]) :=
  h.plain j _ (List.getElem?_eq_getElem hj)
theorem Bs.some_of {w : World} {ao : Option Addr} {l : List UInt8} (h : Bs w ao l) (hl : 0 < l.length) : ∃ b off, ao = some ⟨b, off, none⟩ := by
  cases ao with
  | none => have := h.1 rfl; subst this; simp at hl
  | some ad => have := h.spot hl; obtain ⟨b, off, sp⟩ := ad; dsimp only at this; subst this; exact ⟨b, off, rfl⟩
theorem Bs.block_lt {w : World} {b off : Nat} {l : List UInt8} (h : Bs w (some ⟨b, off, none⟩) l) (hl : 0 < l.length) : b < w.heap.size :=
  World.block_lt_of_cell? w ⟨b, off + 0, none⟩ (h.cell 0 hl)
/-- what is read stays, where its block does -/
theorem Bs.block {w w' : World} {ao : Option Addr} {l : List UInt8} (h : Bs w ao l) (hb : ∀ b off, ao = some ⟨b, off, none⟩ → 0 < l.length → w'.heap[b]? = w.heap[b]?) : Bs w' ao l := by
  by_cases hl : 0 < l.length
  · obtain ⟨b, off, rfl⟩ := h.some_of hl
    refine Bs.of_plain fun j x hj => ?_
    rw [← h.plain j x hj]
    exact World.cell?_of_block (w := w) (hb b off rfl hl)
  · have : l = [] := List.eq_nil_of_length_eq_zero (by omega)
    subst this
    exact Bs.empty w' ao
theorem Bs.ch {S : Nat → Prop} {w w' : World} {ao : Option Addr} {l : List UInt8} (h : Bs w ao l) (hc : Ch S w w') (hS : ∀ b off, ao = some ⟨b, off, none⟩ → 0 < l.length → ¬ S b) : Bs w' ao l :=
  h.block fun b off hao hl => by subst hao; exact hc.block b (h.block_lt hl) (hS b off rfl hl)
theorem Bs.below {w w' : World} {ao : Option Addr} {l : List UInt8} (h : Bs w ao l) (hc : Below w.heap.size w w') : Bs w' ao l :=
  h.block fun b off hao hl => by subst hao; exact hc.block b (h.block_lt hl)
theorem Bs.drop {w : World} {b off : Nat} {l : List UInt8} (h : Bs w (some ⟨b, off, none⟩) l) (k : Nat) : Bs w (some ⟨b, off + k, none⟩) (l.drop k) :=
  Bs.of_plain fun j x hj => by
    rw [List.getElem?_drop] at hj
    rw [Nat.add_assoc]
    exact h.plain _ _ hj
theorem Bs.take {w : World} {ao : Option Addr} {l : List UInt8} (h : Bs w ao l) (k : Nat) : Bs w ao (l.take k) :=
  ⟨fun hn => by rw [h.1 hn]; simp, fun ad had j x hj => h.2 ad had j x (by rw [List.getElem?_take] at hj; split at hj; exact hj; cases hj)⟩
/-- its block holds bytes: another kind's block is another -/
theorem Bs.ne {w : World} {b off : Nat} {l : List UInt8} (h : Bs w (some ⟨b, off, none⟩) l) (hl : 0 < l.length) {g : Nat} {cs : Array Value} {t : TypeId} {fr : Nat × Nat} (hg : w.heap[g]? = some (.cells cs t fr)) (hcs : ∀ (i : Nat) k x, cs[i]? = some (Value.int k x) → k ≠ .u8) : b ≠ g := by
  rintro rfl
  have := h.cell 0 hl
  simp only [World.cell?, hg] at this
  exact hcs _ _ _ this rfl

theorem oneCell_bv (l : List UInt8) : ∀ u ∈ l.map bv, u.oneCell' = true := by
  intro u hu
  obtain ⟨_, _, rfl⟩ := List.mem_map.1 hu
  rfl
theorem Bs.news {w : World} {ad : Addr} {l : List UInt8} (h : Bs w (some ad) l) : ∀ j u, (l.map bv)[j]? = some u → w.cell? (ad.add j) = some u := by
  intro j u hu
  rw [List.getElem?_map] at hu
  obtain ⟨b, hb, rfl⟩ := Option.map_eq_some_iff.1 hu
  exact h.2 _ rfl j b hb

/-- bytes that the call owns from block B on -/
abbrev Ow (w : World) (B : Nat) (v : Value) (l : List UInt8) : Prop := RowO w B 5 1 v l.length (l.map bv)
theorem info_u8 : (Tryd.prog.info? 5).map (fun i => (i.zero, i.size, i.bytes)) = some (some (.int .u8 0), 1, 1) := by kernel_rfl
theorem Ow.nil (w : World) (B : Nat) : Ow w B (.slice none 0 0) [] := RowO.nil w B _ _
/-- what is owned reads -/
theorem Ow.bs {w : World} {B : Nat} {v : Value} {l : List UInt8} (h : Ow w B v l) : ∃ ao c, v = .slice ao l.length c ∧ Bs w ao l ∧ l.length ≤ c ∧ (∀ b off sp, ao = some ⟨b, off, sp⟩ → B ≤ b ∧ b < w.heap.size ∧ off = 0) := by
  obtain ⟨h1, h2⟩ := id h
  rcases h2 with ⟨hv, hn⟩ | ⟨g, cap, cur, fz, hv, hg, hh, hf, hn, hc, hs, ht⟩
  · have : l = [] := List.eq_nil_of_length_eq_zero hn
    subst this
    exact ⟨none, 0, by simpa using hv, Bs.nil w, by simp, nofun⟩
  · refine ⟨some ⟨g, 0, none⟩, cap, hv, Bs.of_plain fun j b hj => ?_, hn, fun b off sp hb => ?_⟩
    · have := h.cells (g := g) (by rw [hv]; rfl) j (bv b) (by rw [List.getElem?_map, hj]; rfl)
      rw [Addr.add_lit] at this
      exact this
    · cases hb
      exact ⟨hg, lt_of_block hh, rfl⟩
theorem Ow.bs' {w : World} {B : Nat} {v : Value} {l : List UInt8} (h : Ow w B v l) : ∃ ao c, v = .slice ao l.length c ∧ Bs w ao l ∧ l.length ≤ c ∧ (∀ b off sp, ao = some ⟨b, off, sp⟩ → B ≤ b ∧ b < w.heap.size ∧ off = 0) ∧ (ao = none → c = 0) := by
  obtain ⟨ao, c, hv, h1, h2, h3⟩ := h.bs
  refine ⟨ao, c, hv, h1, h2, h3, fun hn => ?_⟩
  rcases h.2 with ⟨hv', _⟩ | ⟨g, cap, cur, fz, hv', _⟩
  · rw [hv] at hv'
    injection hv' with _ _ e3
  · rw [hv, hn] at hv'
    injection hv' with e1
    cases e1
theorem Ow.below {w w' : World} {B : Nat} {v : Value} {l : List UInt8} (h : Ow w B v l) (hb : Below w.heap.size w w') : Ow w' B v l :=
  RowO.kept (row := none) h ⟨hb.os, hb.tape, hb.output, hb.size, fun k hk _ => hb.block k hk⟩ (by cases v.ownBlock <;> simp)
/-- an owned row stays while another block is written -/
theorem Ow.ch {S : Nat → Prop} {w w' : World} {B : Nat} {v : Value} {l : List UInt8} (h : Ow w B v l) (hc : Ch S w w') (hS : ∀ k, v.ownBlock = some k → ¬ S k) : Ow w' B v l :=
  RowO.keep h fun k hk => hc.block k (RowO.lt h k hk).2 (hS k hk)
theorem Ow.ge {w : World} {B : Nat} {v : Value} {l : List UInt8} (h : Ow w B v l) : ∀ k, v.ownBlock = some k → B ≤ k ∧ k < w.heap.size := RowO.lt h
theorem Ch.grown {S : Nat → Prop} {a w w' : World} {row : Option Nat} (h : Ch S a w) (hg : w.grownBy w' row) (hr : ∀ k, row = some k → S k ∨ a.heap.size ≤ k) : Ch S a w' :=
  ⟨hg.os.trans h.os, hg.tape.trans h.tape, hg.output.trans h.output, Nat.le_trans h.size hg.size, fun k hk hs =>
    (hg.block k (Nat.lt_of_lt_of_le hk h.size) (fun e => by rcases hr k e.symm with x | x; exact hs x; omega)).trans (h.block k hk hs)⟩
theorem ErrVar.ch {S : Nat → Prop} {g : Nat} {w w' : World} (h : ErrVar g w) (hc : Ch S w w') (hS : ¬ S g) : ErrVar g w' := by
  obtain ⟨ev, he, hev⟩ := h
  exact ⟨ev, (World.cell?_of_block (w := w) (hc.block g (World.block_lt_of_cell? w _ he) hS)).trans he, hev⟩
theorem ErrVar.lt {g : Nat} {w : World} (h : ErrVar g w) : g < w.heap.size := by
  obtain ⟨ev, he, hev⟩ := h
  exact World.block_lt_of_cell? w _ he
theorem Below.of_ch {w w' : World} (h : Ch (fun _ => False) w w') : Below w.heap.size w w' := ⟨h.os, h.tape, h.output, h.size, fun k hk => h.block k hk id⟩
theorem Ch.of_below {S : Nat → Prop} {w w' : World} (h : Below w.heap.size w w') : Ch S w w' := ⟨h.os, h.tape, h.output, h.size, fun k hk _ => h.block k hk⟩

/-- append(v, bytes...), v the call's own -/
theorem run_app (w : World) (B : Nat) (ty : TypeId) (v : Value) (out : List UInt8) (hown : Ow w B v out) (ao : Option Addr) (m c : Nat) (l : List UInt8) (hm : l.length = m) (hB : Bs w ao l) (hc : ao = none → c = 0)
    (hsz : out.length + m ≤ 70368744177664) (hbase : B ≤ w.heap.size) :
    ∃ v' w', (Builtin.append_ #[24, 24] ty #[v, .slice ao m c]).run Tryd.prog w = .ok v' w' ∧ Ow w' B v' (out ++ l) ∧ w.grownBy w' v.ownBlock ∧ (v' = .slice none 0 0 ↔ v = .slice none 0 0 ∧ m = 0) ∧ (∀ k, v'.ownBlock = some k → v.ownBlock = some k ∨ w.heap.size ≤ k) := by
  obtain ⟨i, hi, hz, hs1, hb1⟩ := info_parts info_u8
  subst hm
  cases ao with
  | none =>
    have := hB.1 rfl
    subst this
    have := hc rfl
    subst this
    refine ⟨v, w, ?_, by simpa using hown, World.grownBy.refl _ _, by simp, fun k hk => .inl hk⟩
    exact run_appendO_none w B 24 ty 5 i 1 Tryd.underlying24 hi v out.length (out.map bv) hown
  | some ad =>
    obtain ⟨v', w', h1, h2, h3, h4⟩ := run_appendO (P := Tryd.prog) w B 24 ty 5 i (.int .u8 0) 1 1 Tryd.underlying24 hi hz hs1 hb1 rfl (by omega) v out.length (out.map bv) hown ad l.length c (l.map bv) (by simp) hB.news (oneCell_bv l)
      (by unfold maxLen; omega) (by omega) hbase
    exact ⟨v', w', h1, by unfold Ow; rw [List.length_append, List.map_append]; exact h2, h3, h4⟩
/-- the same as an operation of a walk -/
theorem wp_app {w : World} {ops : Array Oper} {rest : List Oper} {o : Oper} {a : Act} {Q : Exit → Act → World → Prop} (hgd : o.guard = none) (s x : Operand)
    (ho : o.op = .call { callee := .builtin .append, args := #[s, x], argTypes := #[24, 24] })
    (B : Nat) (v : Value) (out : List UInt8) (hs : a.eval s = v) (hown : Ow w B v out) (ao : Option Addr) (m c : Nat) (hx : a.eval x = .slice ao m c) (l : List UInt8) (hm : l.length = m) (hB : Bs w ao l) (hc : ao = none → c = 0)
    (hsz : out.length + m ≤ 70368744177664) (hbase : B ≤ w.heap.size)
    (h : ∀ v' w', Ow w' B v' (out ++ l) → w.grownBy w' v.ownBlock → ((v' = .slice none 0 0 ↔ v = .slice none 0 0 ∧ m = 0) ∧ (∀ k, v'.ownBlock = some k → v.ownBlock = some k ∨ w.heap.size ≤ k)) → wpList Tryd.prog ops Q rest (a.put o.dst v') w') : wpList Tryd.prog ops Q (o :: rest) a w := by
  refine wpList_plain hgd fun K hK => ?_
  obtain ⟨v', w', hr, h2, h3, h4⟩ := run_app w B o.type v out hown ao m c l hm hB hc hsz hbase
  unfold Oper.wp execOp
  simp only [ho, resolve, invoke, builtin, Sem.run_bind, Sem.run_pure, Result.andThen_ok, List.map_toArray, List.map_cons, List.map_nil, hs, hx, hr]
  exact hK _ _ (h v' w' h2 h3 h4)
/-- in a region that draws its order -/
theorem step_app {w : World} {ops : Array Oper} {o : Oper} {a : Act} {K : Act → World → Prop} {Q : Exit → Act → World → Prop} {E : Prop} (hgd : o.guard = none) (s x : Operand)
    (ho : o.op = .call { callee := .builtin .append, args := #[s, x], argTypes := #[24, 24] })
    (B : Nat) (v : Value) (out : List UInt8) (hs : a.eval s = v) (hown : Ow w B v out) (ao : Option Addr) (m c : Nat) (hx : a.eval x = .slice ao m c) (l : List UInt8) (hm : l.length = m) (hB : Bs w ao l) (hc : ao = none → c = 0)
    (hsz : out.length + m ≤ 70368744177664) (hbase : B ≤ w.heap.size)
    (h : ∀ v' w', Ow w' B v' (out ++ l) → w.grownBy w' v.ownBlock → ((v' = .slice none 0 0 ↔ v = .slice none 0 0 ∧ m = 0) ∧ (∀ k, v'.ownBlock = some k → v.ownBlock = some k ∨ w.heap.size ≤ k)) → K (a.put o.dst v') w') :
    if Region.wanted o (yielded ops a.tmps) = true then Oper.wp Tryd.prog o a w K Q else E := by
  have hw : Region.wanted o (yielded ops a.tmps) = true := by simp [Region.wanted, hgd]
  rw [if_pos hw]
  obtain ⟨v', w', hr, h2, h3, h4⟩ := run_app w B o.type v out hown ao m c l hm hB hc hsz hbase
  unfold Oper.wp execOp
  simp only [ho, resolve, invoke, builtin, Sem.run_bind, Sem.run_pure, Result.andThen_ok, List.map_toArray, List.map_cons, List.map_nil, hs, hx, hr]
  exact h v' w' h2 h3 h4
/-- append(v, text...), v the call's own -/
theorem run_app_str (w : World) (B : Nat) (ty : TypeId) (v : Value) (out : List UInt8) (hown : Ow w B v out) (s : ByteArray) (hsz : out.length + s.size ≤ 70368744177664) (hbase : B ≤ w.heap.size) :
    ∃ v' w', (Builtin.append_ #[24, 9] ty #[v, .string s]).run Tryd.prog w = .ok v' w' ∧ Ow w' B v' (out ++ s.data.toList) ∧ w.grownBy w' v.ownBlock ∧ (v' = .slice none 0 0 ↔ v = .slice none 0 0 ∧ s.size = 0) ∧ (∀ k, v'.ownBlock = some k → v.ownBlock = some k ∨ w.heap.size ≤ k) := by
  obtain ⟨i, hi, hz, hs1, hb1⟩ := info_parts info_u8
  obtain ⟨v', w', h1, h2, h3, h4⟩ := run_append_stringO (P := Tryd.prog) w B 24 9 ty 5 i Tryd.underlying24 Tryd.underlying9 hi hz hs1 hb1 v out.length (out.map bv) hown s (by unfold maxLen; omega) (by omega) hbase
  refine ⟨v', w', h1, ?_, h3, h4⟩
  unfold Ow
  rw [List.length_append, List.map_append]
  have e1 : Lib.strCells s = s.data.toList.map bv := rfl
  rw [← e1]
  exact h2
theorem wp_app_str {w : World} {ops : Array Oper} {rest : List Oper} {o : Oper} {a : Act} {Q : Exit → Act → World → Prop} (hgd : o.guard = none) (sl x : Operand)
    (ho : o.op = .call { callee := .builtin .append, args := #[sl, x], argTypes := #[24, 9] })
    (B : Nat) (v : Value) (out : List UInt8) (hs : a.eval sl = v) (hown : Ow w B v out) (s : ByteArray) (hx : a.eval x = .string s) (hsz : out.length + s.size ≤ 70368744177664) (hbase : B ≤ w.heap.size)
    (h : ∀ v' w', Ow w' B v' (out ++ s.data.toList) → w.grownBy w' v.ownBlock → ((v' = .slice none 0 0 ↔ v = .slice none 0 0 ∧ s.size = 0) ∧ (∀ k, v'.ownBlock = some k → v.ownBlock = some k ∨ w.heap.size ≤ k)) → wpList Tryd.prog ops Q rest (a.put o.dst v') w') : wpList Tryd.prog ops Q (o :: rest) a w := by
  refine wpList_plain hgd fun K hK => ?_
  obtain ⟨v', w', hr, h2, h3, h4⟩ := run_app_str w B o.type v out hown s hsz hbase
  unfold Oper.wp execOp
  simp only [ho, resolve, invoke, builtin, Sem.run_bind, Sem.run_pure, Result.andThen_ok, List.map_toArray, List.map_cons, List.map_nil, hs, hx, hr]
  exact hK _ _ (h v' w' h2 h3 h4)
theorem Below.of_ge {w w' : World} (h : Ch (fun k => w.heap.size ≤ k) w w') : Below w.heap.size w w' := ⟨h.os, h.tape, h.output, h.size, fun k hk => h.block k hk (by omega)⟩
theorem Ow.mono {w : World} {B B' : Nat} {v : Value} {l : List UInt8} (h : Ow w B v l) (hB : B' ≤ B) : Ow w B' v l := RowO.mono h hB
theorem Ch.ge_mono {a w w' : World} {B : Nat} (h : Ch (fun k => B ≤ k) w w') (hw : Below a.heap.size a w) (hB : a.heap.size ≤ B) : Below a.heap.size a w' :=
  ⟨h.os.trans hw.os, h.tape.trans hw.tape, h.output.trans hw.output, Nat.le_trans hw.size h.size, fun k hk => (h.block k (Nat.lt_of_lt_of_le hk hw.size) (by omega)).trans (hw.block k hk)⟩
/-- an append onto what the call owns from its own base on leaves the elder world as it was -/
theorem Below.own {a w w' : World} {B : Nat} {v : Value} {l : List UInt8} (h : Below a.heap.size a w) (ho : Ow w B v l) (hg : w.grownBy w' v.ownBlock) (hB : a.heap.size ≤ B) : Below a.heap.size a w' :=
  h.grown hg h.size fun k hk => Nat.le_trans hB (ho.ge k hk).1
/-- '[]byte(s)' is owned -/
theorem Ow.bytes (w : World) (s : ByteArray) (hm : s.size ≤ 70368744177664) : Ow (Lib.bytesWorld w 5 s) w.heap.size (.slice (some ⟨w.heap.size, 0, none⟩) s.size (grownCap w s.size 0 5)) s.data.toList := by
  have h := RowO.bytes w 5 s (by unfold maxLen; omega)
  unfold Ow
  have e1 : Lib.strCells s = s.data.toList.map bv := rfl
  rw [← e1]
  have e2 : s.data.toList.length = s.size := Array.length_toList
  rw [e2]
  exact h
/-- 'string(b)' -/
theorem run_str {w : World} {ao : Option Addr} {l : List UInt8} (h : Bs w ao l) {n : Nat} (hn : l.length = n) (c : Nat) : (convert 24 9 (.slice ao n c)).run Tryd.prog w = .ok (.string ⟨l.toArray⟩) w := by
  cases ao with
  | none =>
    have := h.1 rfl
    subst this
    exact run_convert_bytes_nil (P := Tryd.prog) w 24 5 Tryd.underlying24 Tryd.underlying5 n c 9 Tryd.underlying9
  | some ad =>
    have hld : (loadCells ad n).run Tryd.prog w = .ok (l.map bv).toArray w := by
      have := run_loadCells_list (P := Tryd.prog) w ad (l.map bv) (by
        intro j v hj
        rw [List.getElem?_map] at hj
        obtain ⟨b, hb, rfl⟩ := Option.map_eq_some_iff.1 hj
        exact h.2 _ rfl j b hb)
      rw [List.length_map, hn] at this
      exact this
    have hx : (loadCells ad n).run Tryd.prog w = .ok ((l.map fun b => (b.toNat : Int)).map (Value.int .u8)).toArray w := by
      rw [List.map_map]; exact hld
    have e : strOfNums (l.map fun b => (b.toNat : Int)) = ⟨l.toArray⟩ := by
      unfold strOfNums
      simp [List.map_map, Function.comp_def]
    rw [← e, run_convert_bytes_string w 24 9 5 _ n c Tryd.underlying24 Tryd.underlying5 Tryd.underlying9, run_bytesToString w _ n c _ hx, foldl_push_bytes]
    simp [strOfNums, ByteArray.empty, ByteArray.emptyWithCapacity]
    rfl
/-- a block of bytes, written out -/
theorem Bs.of_block {w : World} {g : Nat} {l : List UInt8} {t : TypeId} {fr : Nat × Nat} (h : w.heap[g]? = some (.cells (l.map bv).toArray t fr)) : Bs w (some ⟨g, 0, none⟩) l :=
  Bs.of_plain fun j b hj => by simp [World.cell?, h, hj]
theorem GV_below {w w' : World} {g : Nat} (h : ErrVar g w) (hb : Below w.heap.size w w') : ErrVar g w' := h.ch (Ch.of_below (S := fun _ => False) hb) id
theorem Below.ch {S : Nat → Prop} {B : Nat} {a w w' : World} (h : Below B a w) (hc : Ch S w w') (hS : ∀ k, S k → B ≤ k) (hB : B ≤ w.heap.size) : Below B a w' :=
  h.trans ⟨hc.os, hc.tape, hc.output, hc.size, fun k hk => hc.block k (by omega) (fun hs => by have := hS k hs; omega)⟩
end Go.Proofs.YtiaafndkbcpbdaaDoor
