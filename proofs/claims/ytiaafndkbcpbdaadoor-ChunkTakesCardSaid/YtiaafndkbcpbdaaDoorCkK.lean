/- Package chunk: Whole, walked. -/
import Derived.Test.YtiaafndkbcpbdaaDoorCkJ
namespace Go.Proofs.YtiaafndkbcpbdaaDoor
open Go.RowKit Go.Shelf
attribute [local go_sem] Oper.semAt_some

/-- the chunks that have come -/
def outOf (l : List UInt8) (xs : List { x : Nat × Nat // x.1 + x.2 ≤ l.length }) : List UInt8 := (xs.map fun x => putL ((l.drop x.1.1).take x.1.2)).flatten
theorem outOf_snoc (l : List UInt8) (xs : List { x : Nat × Nat // x.1 + x.2 ≤ l.length }) (x : { x : Nat × Nat // x.1 + x.2 ≤ l.length }) : outOf l (xs ++ [x]) = outOf l xs ++ putL ((l.drop x.1.1).take x.1.2) := by simp [outOf]
theorem putL_len (l : List UInt8) (h : l.length ≤ 1099511627776) : (putL l).length ≤ l.length + 16 := by
  unfold putL
  split
  · simp
  · have := hexL_len l.length 11 (by have : (16 : Nat) ^ 12 = 281474976710656 := by decide
                                     omega)
    simp only [List.length_append, List.length_cons, List.length_nil]
    omega
theorem outOf_len (l : List UInt8) (h : l.length ≤ 1048576) (xs : List { x : Nat × Nat // x.1 + x.2 ≤ l.length }) : (outOf l xs).length ≤ xs.length * 1048592 := by
  induction xs with
  | nil => simp [outOf]
  | cons x xs ih =>
    have h1 := putL_len ((l.drop x.1.1).take x.1.2) (by rw [List.length_take, List.length_drop]; omega)
    have h2 : ((l.drop x.1.1).take x.1.2).length ≤ l.length := by rw [List.length_take, List.length_drop]; omega
    have e : outOf l (x :: xs) = putL ((l.drop x.1.1).take x.1.2) ++ outOf l xs := by simp [outOf]
    rw [e, List.length_append, List.length_cons]
    omega

theorem cidx_len (n len : Nat) : ∀ f i, (cidx n len f i).length ≤ f
  | 0, _ => by simp [cidx]
  | f + 1, i => by
    rw [cidx]
    split
    · have := cidx_len n len f (i + n); simp; omega
    · simp

def wholeL (l : List UInt8) (n : Nat) : List UInt8 := outOf l (cidx n l.length l.length 0) ++ lastL

theorem ow_row {W W' : World} {row : Option Nat} {B : Nat} {v : Value} {l : List UInt8} (h : Ow W B v l) (hg : W.grownBy W' row) (hr : ∀ r, row = some r → ∃ o : Obj, W.heap[r]? = some o ∧ o.isCells = false) : Ow W' B v l :=
  RowO.keep h fun k hk => hg.block k (RowO.lt h k hk).2 (by
    intro e
    obtain ⟨o, ho, hc⟩ := hr k e.symm
    rcases h.2 with ⟨rfl, _⟩ | ⟨g, cap, cur, fz, rfl, _, hh, _⟩
    · cases hk
    · cases hk; rw [hh] at ho; cases ho; cases hc)
theorem box_row {W W' : World} {row : Option Nat} {g : Nat} {cs : Array Value} {t : TypeId} {fr : Nat × Nat} (h : W.heap[g]? = some (.cells cs t fr)) (hg : W.grownBy W' row) (hr : ∀ r, row = some r → ∃ o : Obj, W.heap[r]? = some o ∧ o.isCells = false) : W'.heap[g]? = some (.cells cs t fr) :=
  (hg.block g (lt_of_block h) (by intro e; obtain ⟨o, ho, hc⟩ := hr g e.symm; rw [h] at ho; cases ho; cases hc)).trans h

/-- between two rounds -/
def WhI (w : World) (l : List UInt8) (pre : List { x : Nat × Nat // x.1 + x.2 ≤ l.length }) (W : World) : Prop :=
  ∃ v, W.heap[w.heap.size]? = some (.cells #[v] 24 (0, 0)) ∧ Ow W (w.heap.size + 3) v (outOf l pre) ∧ Below w.heap.size w W ∧ w.heap.size + 3 ≤ W.heap.size

theorem WhI.own (w : World) (l : List UInt8) : OwnFrom (w.heap.size + 3) (WhI w l) := by
  rintro pre W W' row ⟨v, hb, ho, hB, hsz⟩ hg hr
  exact ⟨v, box_row hb hg (fun r e => (hr r e).2), ow_row ho hg (fun r e => (hr r e).2), hB.grown hg hB.size (fun k e => by have := (hr k e).1; omega), Nat.le_trans hsz hg.size⟩

theorem Below.cells_keep {B : Nat} {A C : World} (h : Below A.heap.size A C) : KeepsFrom B A C :=
  ⟨h.size, fun k o _ hk _ => (h.block k (Array.getElem?_eq_some_iff.1 hk).1).trans hk⟩

/-- one operation alone may come up -/
theorem any_one {F : Fence} {n : Nat} {P : Program} {md : Region.Mode} {ops : Array Oper} {Q : Exit → Act → World → Prop} {fuel : Nat} {listed : Array Bool} {a : Act} {w : World} {i : Nat} {o : Oper} (hr : Region.ready md ops listed = [i]) (ho : ops[i]? = some o)
    (h : ∀ K' : Act → World → Prop, (∀ a w, wpAnyIn F n P md ops Q fuel (listed.setIfInBounds i true) a w → K' a w) → if Region.wanted o (yielded ops a.tmps) = true then Oper.wpIn F n P o a w K' Q else (∀ f, o.about P w a.eval = some f → F.fn f) ∧ K' (a.put o.dst undef) w) :
    wpAnyIn F n P md ops Q (fuel + 1) listed a w := wpAnyIn_ready hr (by simp) (AllReadyIn.cons ho h AllReadyIn.nil)
/-- one of two may come up -/
theorem any_two {F : Fence} {n : Nat} {P : Program} {md : Region.Mode} {ops : Array Oper} {Q : Exit → Act → World → Prop} {fuel : Nat} {listed : Array Bool} {a : Act} {w : World} {i j : Nat} {o o' : Oper} (hr : Region.ready md ops listed = [i, j]) (ho : ops[i]? = some o) (ho' : ops[j]? = some o')
    (h : ∀ K' : Act → World → Prop, (∀ a w, wpAnyIn F n P md ops Q fuel (listed.setIfInBounds i true) a w → K' a w) → if Region.wanted o (yielded ops a.tmps) = true then Oper.wpIn F n P o a w K' Q else (∀ f, o.about P w a.eval = some f → F.fn f) ∧ K' (a.put o.dst undef) w)
    (h' : ∀ K' : Act → World → Prop, (∀ a w, wpAnyIn F n P md ops Q fuel (listed.setIfInBounds j true) a w → K' a w) → if Region.wanted o' (yielded ops a.tmps) = true then Oper.wpIn F n P o' a w K' Q else (∀ f, o'.about P w a.eval = some f → F.fn f) ∧ K' (a.put o'.dst undef) w) :
    wpAnyIn F n P md ops Q (fuel + 1) listed a w := wpAnyIn_ready hr (by simp) (AllReadyIn.cons ho h (AllReadyIn.cons ho' h' AllReadyIn.nil))
/-- an append whose run is known -/
theorem step_run_in {F : Fence} {n : Nat} {w w' : World} {ops : Array Oper} {o : Oper} {a : Act} {K : Act → World → Prop} {Q : Exit → Act → World → Prop} {E : Prop} (hF : ∀ f, F.fn f) (hgd : o.guard = none) (s x : Operand)
    (ho : o.op = .call { callee := .builtin .append, args := #[s, x], argTypes := #[24, 24] }) {v u v' : Value} (hs : a.eval s = v) (hx : a.eval x = u)
    (hr : (Builtin.append_ #[24, 24] o.type #[v, u]).run Tryd.prog w = .ok v' w') (h : K (a.put o.dst v') w') :
    if Region.wanted o (yielded ops a.tmps) = true then Oper.wpIn F n Tryd.prog o a w K Q else E := by
  have hw : Region.wanted o (yielded ops a.tmps) = true := by simp [Region.wanted, hgd]
  rw [if_pos hw]
  unfold Oper.wpIn
  refine ⟨fun f hf => ?_, ?_⟩
  · exact hF f
  · rw [Oper.semAt_eq _ _ _ (fun c => by rw [ho]; simp)]
    unfold execOp
    simp only [ho, resolve, invoke, builtin, Sem.run_bind, Sem.run_pure, Result.andThen_ok, List.map_toArray, List.map_cons, List.map_nil, hs, hx, hr]
    exact h

/-- a round's step: what an append and the store into the box come to -/
theorem wh_step {w W w1 : World} {l out L : List UInt8} {v v1 : Value} {g : Nat} (hg : g = w.heap.size) (hv : W.heap[g]? = some (.cells #[v] 24 (0, 0))) (ho : Ow W (w.heap.size + 3) v out) (hB : Below w.heap.size w W) (hsW : w.heap.size + 3 ≤ W.heap.size)
    (ho1 : Ow w1 W.drew.heap.size v1 L) (hb1 : Below W.drew.heap.size W.drew w1) (hsz : out.length + L.length ≤ 70368744177664) :
    ∃ ao1 c1 ao2 n2 c2 w2, v1 = .slice ao1 L.length c1 ∧ (Builtin.append_ #[24, 24] 24 #[v, .slice ao1 L.length c1]).run Tryd.prog w1 = .ok (.slice ao2 n2 c2) w2 ∧ w1.cell? ⟨g, 0, none⟩ = some v ∧ w2.cell? ⟨g, 0, none⟩ = some v ∧ w2.frozen? ⟨g, 0, none⟩ = false ∧
      (w2.setCell ⟨g, 0, none⟩ (.slice ao2 n2 c2)).heap[g]? = some (.cells #[.slice ao2 n2 c2] 24 (0, 0)) ∧ Ow (w2.setCell ⟨g, 0, none⟩ (.slice ao2 n2 c2)) (w.heap.size + 3) (.slice ao2 n2 c2) (out ++ L) ∧ Below w.heap.size w (w2.setCell ⟨g, 0, none⟩ (.slice ao2 n2 c2)) ∧ w.heap.size + 3 ≤ (w2.setCell ⟨g, 0, none⟩ (.slice ao2 n2 c2)).heap.size ∧
      KeepsFrom (w.heap.size + 3) W (w2.setCell ⟨g, 0, none⟩ (.slice ao2 n2 c2)) ∧ KpG (g + 1) W (w2.setCell ⟨g, 0, none⟩ (.slice ao2 n2 c2)) := by
  obtain ⟨ao1, c1, hv1, hbs1, hle, hof, hnc⟩ := ho1.bs'
  have hs1 : w.heap.size + 3 ≤ w1.heap.size := Nat.le_trans hsW hb1.size
  have ho' : Ow w1 (w.heap.size + 3) v out := RowO.keep ho fun k hk => hb1.block k (ho.ge k hk).2
  have hv' : w1.heap[g]? = some (.cells #[v] 24 (0, 0)) := (hb1.block g (by show g < W.heap.size; omega)).trans hv
  obtain ⟨v2, w2, hrun, ho2, hg2, -⟩ := run_app w1 (w.heap.size + 3) 24 v out ho' ao1 L.length c1 L rfl hbs1 hnc hsz hs1
  obtain ⟨ao2, c2, hv2e, -, -, -, -⟩ := ho2.bs'
  subst hv2e
  have hne : some g ≠ v.ownBlock := by intro e; have := (ho'.ge g e.symm).1; omega
  have hv2 : w2.heap[g]? = some (.cells #[v] 24 (0, 0)) := (hg2.block g (by omega) hne).trans hv'
  have hlow : ∀ k, k < w.heap.size + 3 → w2.heap[k]? = W.heap[k]? := fun k hk =>
    (hg2.block k (by omega) (by intro e; have := (ho'.ge k e.symm).1; omega)).trans (hb1.block k (by show k < W.heap.size; omega))
  refine ⟨ao1, c1, ao2, _, c2, w2, hv1, hrun, (blk_cell hv' 0).trans rfl, (blk_cell hv2 0).trans rfl, blk_free hv2 0, blk_set hv2 0 _, ?_, ?_, ?_, ?_, ?_⟩
  · exact RowO.keep ho2 fun k hk => Below.heap_setCell _ _ _ _ (by have := (ho2.ge k hk).1; show k ≠ g; omega)
  · have h2 : Below w.heap.size w w2 := (hB.trans ((Below.drew (Below.refl w.heap.size W)).trans (hb1.mono (by show w.heap.size ≤ W.heap.size; omega)))).grown hg2 (by omega) (fun k hk => by have := (ho'.ge k hk).1; omega)
    exact h2.setCell (by show w.heap.size ≤ g; omega) _
  · have := hg2.size; simp only [World.setCell, Array.size_modify]; omega
  · have hk2 : KeepsFrom (w.heap.size + 3) w1 w2 := KeepsOthers.from (KeepsOthers.of_grownBy hg2 (fun j o hj ho => by
      rcases ho'.2 with ⟨rfl, _⟩ | ⟨gg, cap, cur, fz, rfl, _, hh, _⟩
      · cases hj
      · cases hj; rw [hh] at ho; cases ho; rfl)) _
    have hk1 : KeepsFrom (w.heap.size + 3) W w1 := ⟨hb1.size, fun k o _ hk _ => (hb1.block k (Array.getElem?_eq_some_iff.1 hk).1).trans hk⟩
    exact (hk1.trans hk2).trans ((KeepsOthers.setCell _ _ _).from _)
  · constructor
    · rw [Below.heap_setCell _ _ _ _ (by show g + 1 ≠ g; omega)]; exact hlow _ (by omega)
    · rw [Below.heap_setCell _ _ _ _ (by show g + 1 + 1 ≠ g; omega)]; exact hlow _ (by omega)

theorem ow_put {W : World} {B D : Nat} {v : Value} {l : List UInt8} {o : Obj} (h : Ow W B v l) (hK : W.heap[D]? = some o) (ho : o.isCells = false) (o' : Obj) : Ow (W.putObj D o') B v l :=
  RowO.keep h fun k hk => World.putObj_heap_other (by
    rintro rfl
    rcases h.2 with ⟨rfl, _⟩ | ⟨g, cap, cur, fz, rfl, _, hh, _⟩
    · cases hk
    · cases hk; rw [hh] at hK; cases hK; cases ho)

/-- what the last append comes to -/
theorem wh_end {w W w1 : World} {out L : List UInt8} {v v1 : Value} {g D : Nat} (hg : g = w.heap.size) (hv : W.heap[g]? = some (.cells #[v] 24 (0, 0))) (ho : Ow W (w.heap.size + 3) v out) (hB : Below w.heap.size w W) (hsW : w.heap.size + 3 ≤ W.heap.size)
    (hK : W.heap[D]? = some (.deferred (some []))) (ho1 : Ow w1 W.drew.heap.size v1 L) (hb1 : Below W.drew.heap.size W.drew w1) (hsz : out.length + L.length ≤ 70368744177664) :
    ∃ ao1 c1 v2 w2, v1 = .slice ao1 L.length c1 ∧ (Builtin.append_ #[24, 24] 24 #[v, .slice ao1 L.length c1]).run Tryd.prog w1 = .ok v2 w2 ∧ w1.cell? ⟨g, 0, none⟩ = some v ∧
      w2.heap[D]? = some (.deferred (some [])) ∧ Ow w2 w.heap.size v2 (out ++ L) ∧ Below w.heap.size w w2 := by
  obtain ⟨ao1, c1, hv1, hbs1, hle, hof, hnc⟩ := ho1.bs'
  have hs1 : w.heap.size + 3 ≤ w1.heap.size := Nat.le_trans hsW hb1.size
  have ho' : Ow w1 (w.heap.size + 3) v out := RowO.keep ho fun k hk => hb1.block k (ho.ge k hk).2
  have hv' : w1.heap[g]? = some (.cells #[v] 24 (0, 0)) := (hb1.block g (by show g < W.heap.size; omega)).trans hv
  have hK1 : w1.heap[D]? = some (.deferred (some [])) := (hb1.block D (Array.getElem?_eq_some_iff.1 hK).1).trans hK
  obtain ⟨v2, w2, hrun, ho2, hg2, -⟩ := run_app w1 (w.heap.size + 3) 24 v out ho' ao1 L.length c1 L rfl hbs1 hnc hsz hs1
  refine ⟨ao1, c1, v2, w2, hv1, hrun, (blk_cell hv' 0).trans rfl, ?_, ho2.mono (by omega), ?_⟩
  · refine (hg2.block D (Array.getElem?_eq_some_iff.1 hK1).1 ?_).trans hK1
    intro e
    rcases ho'.2 with ⟨rfl, _⟩ | ⟨gg, cap, cur, fz, rfl, _, hh, _⟩
    · cases e
    · cases e; rw [hh] at hK1; cases hK1
  · exact (hB.trans ((Below.drew (Below.refl w.heap.size W)).trans (hb1.mono (by show w.heap.size ≤ W.heap.size; omega)))).grown hg2 (by omega) (fun k hk => by have := (ho'.ge k hk).1; omega)

set_option maxRecDepth 100000 in
set_option maxHeartbeats 2000000 in
theorem Whole_some (w : World) (hT : Tz16 w) (b off : Nat) (l : List UInt8) (c : Nat) (hl0 : 0 < l.length) (hl : l.length ≤ 1048576) (hcap : l.length ≤ c) (hb : Bs w (some ⟨b, off, none⟩) l) (n : Nat) (hn : 1 ≤ n) (hn2 : n ≤ 9223372036854775807) :
    Calls Tryd.prog 17 #[.slice (some ⟨b, off, none⟩) l.length c, .int .i64 n] w fun e w' => ∃ v', e = .returned (.tuple #[v', .int .i64 0]) ∧ Ow w' w.heap.size v' (wholeL l n) ∧ Below w.heap.size w w' := by
  refine (callsIn_wide (n := 9)).1 ?_
  refine callsIn_of_wp_marks Tryd.func17 rfl trivial ?_ rfl
  simp only [Tryd.ntmps17, List.size_toArray, List.length_cons, List.length_nil, Nat.reduceAdd, Nat.reduceSub, Array.replicate_succ, Array.replicate_zero, List.push_toArray, List.append_toArray, List.nil_append, List.cons_append]
  have hd1 : decide ((n : Int) < 1) = false := decide_eq_false (by omega)
  gi_wp2_with (refine ⟨trivial, ?_⟩; gi_at_call 25; refine (callsIn_wide.2 (Chunk_calls _ _ _ _ (by omega) _)).mono ?_; rintro e w' ⟨rfl, rfl⟩)
  obtain ⟨W0, hW0⟩ : ∃ W0, ((w.alloc (Obj.cells #[Value.slice none 0 0] 24)).alloc (Obj.cells #[Value.slice (some ⟨b, off, none⟩) l.length c] 24)).alloc (Obj.cells #[Value.int .i64 n] 3) = W0 := ⟨_, rfl⟩
  have hsz : W0.heap.size = w.heap.size + 3 := by rw [← hW0]; simp
  have hb0 : Below w.heap.size w W0 := by rw [← hW0]; exact (((Below.refl _ w).alloc (Nat.le_refl _) _).alloc (by simp) _).alloc (by simp; omega) _
  have k0 : W0.heap[w.heap.size]? = some (.cells #[.slice none 0 0] 24 (0, 0)) := by
    rw [← hW0, Below.heap_alloc _ _ _ (by simp; omega), Below.heap_alloc _ _ _ (by simp)]; exact heap_alloc_new w _
  have k1 : W0.cell? ⟨w.heap.size + 1, 0, none⟩ = some (.slice (some ⟨b, off, none⟩) l.length c) := by
    have h := heap_alloc_new (w.alloc (Obj.cells #[Value.slice none 0 0] 24)) (Obj.cells #[Value.slice (some ⟨b, off, none⟩) l.length c] 24)
    rw [World.size_alloc] at h
    refine (blk_cell (cs := #[.slice (some ⟨b, off, none⟩) l.length c]) (t := 24) ?_ 0).trans rfl
    rw [← hW0, Below.heap_alloc _ _ _ (by simp)]
    exact h
  have k2 : W0.cell? ⟨w.heap.size + 2, 0, none⟩ = some (.int .i64 n) := by
    have h := heap_alloc_new ((w.alloc (Obj.cells #[Value.slice none 0 0] 24)).alloc (Obj.cells #[Value.slice (some ⟨b, off, none⟩) l.length c] 24)) (Obj.cells #[Value.int .i64 n] 3)
    rw [World.size_alloc, World.size_alloc] at h
    refine (blk_cell (cs := #[.int .i64 n]) (t := 3) ?_ 0).trans rfl
    rw [← hW0]
    exact h
  rw [hW0]
  clear hW0
  have hI0 : WhI w l [] W0 := ⟨_, k0, Ow.nil _ _, hb0, by omega⟩
  refine wpIn_rangeFunc_ownG rfl (by omega) (gf := 35) (lb := #[.pointer (some ⟨w.heap.size + 1, 0, none⟩), .pointer (some ⟨w.heap.size + 1 + 1, 0, none⟩)]) rfl trivial (enters_of Tryd.func35 (by kernel_rfl) rfl)
    (Chunk_stops 8 (by omega) (w.heap.size + 1) b off l.length c (by omega) hcap n hn hn2 W0 (by omega) k1 k2) KpG.trans (fun W l _ o' hl _ _ _ => KpG.put W l o' (by omega)) (Below.refl _ _) (fun _ => rfl)
    (WhI w l) (fun _ _ _ => False) (by rw [hsz]; exact WhI.own w l) (fun _ _ _ _ _ hs _ _ => hs) hI0
    (fun x => { tmps := #[.slice (some ⟨b, off, none⟩) l.length c, .int .i64 n, undef, undef, .slice none 0 0, .int .i64 0, .pointer (some ⟨w.heap.size, 0, none⟩), .slice (some ⟨b, off + x.1.1, none⟩) x.1.2 x.1.2, .int .i64 n, .bool false, .slice (some ⟨b, off, none⟩) l.length c, .int .i64 n,
      .func (.func 35) #[] #[.pointer (some ⟨w.heap.size + 1, 0, none⟩), .pointer (some ⟨w.heap.size + 1 + 1, 0, none⟩)], .slice (some ⟨b, off + x.1.1, none⟩) x.1.2 x.1.2, undef, undef, undef, undef, undef, undef, undef], defers := [] }) ?assign ?body ?done ?stop
  case assign =>
    intro l' x W K hK
    gi_wp2
    exact hK
  case body =>
    rintro l' pre x W ⟨v, hv, ho, hB, hsW⟩ hlt
    obtain ⟨⟨i, m⟩, hx⟩ := x
    dsimp only at hx ⊢
    have hc := blk_cell hv 0
    have hf := blk_free hv 0
    have hb1 : Bs W (some ⟨b, off + i, none⟩) ((l.drop i).take m) := ((hb.below hB).drop i).take m
    have hlm : ((l.drop i).take m).length = m := by rw [List.length_take, List.length_drop]; omega
    have hmx : Tryd.prog.follows .mixedOrders = true := by kernel_rfl
    have hT1 : Tz16 W.drew := (hB.drew.cell (p := ⟨4, 15, none⟩) (World.block_lt_of_cell? w _ hT)).trans hT
    have hPut := Put_calls W.drew hT1 (some ⟨b, off + i, none⟩) ((l.drop i).take m) m (by omega) hb1
    rw [hlm] at hPut
    have HPut := Lib.hid hPut
    have HV := Lib.hid hv
    have HO := Lib.hid ho
    have HB := Lib.hid hB
    have HLen : Hid ((outOf l pre).length ≤ pre.length * 1048592) := Lib.hid (outOf_len l hl pre)
    have HSt := Lib.hid (fun w1 v1 ho1 hb1 => wh_step (w1 := w1) (v1 := v1) (L := putL ((l.drop i).take m)) (l := l) rfl hv ho hB hsW ho1 hb1 (by
      have h1 := putL_len ((l.drop i).take m) (by rw [hlm]; omega)
      have h2 := HLen.out
      omega))
    clear hPut hb1 hT1 hv ho hB hlm
    gi_wp2
    refine wpIn_region_any hmx ?_
    change wpAnyIn _ _ _ _ _ _ _ _ _ (World.drew _)
    refine any_two (i := 0) (j := 1) (by kernel_rfl) rfl rfl (fun K hK => ?_) (fun K hK => ?_)
    · go_simp
      refine hK _ _ ?_
      clear hK K
      refine any_one (i := 1) (by kernel_rfl) rfl (fun K hK => ?_)
      go_simp
      refine hK _ _ ?_
      clear hK K
      refine any_one (i := 2) (by kernel_rfl) rfl (fun K hK => ?_)
      go_simp
      refine ⟨trivial, (CallsIn.inRound l' (callsIn_wide.2 HPut.out)).mono ?_⟩
      rintro e w1 ⟨v1, rfl, ho1, hb1⟩
      obtain ⟨ao1, c1, ao2, n2, c2, w2, rfl, hrun, hc1, hc2, hf2, hR⟩ := HSt.out w1 v1 ho1 hb1
      have HRes := Lib.hid hR
      have HRun := Lib.hid hrun
      clear hR ho1 hb1 hrun
      dsimp only
      refine hK _ _ ?_
      clear hK K
      refine any_one (i := 3) (by kernel_rfl) rfl (fun K hK => ?_)
      refine step_run_in (fun _ => trivial) rfl _ _ rfl rfl rfl HRun.out ?_
      refine hK _ _ ?_
      clear hK K
      refine any_one (i := 4) (by kernel_rfl) rfl (fun K hK => ?_)
      go_simp
      refine hK _ _ ?_
      clear hK K
      refine wpAnyIn_done (by kernel_rfl) ?_ _
      obtain ⟨r1, r2, r3, r4, r5, r6⟩ := HRes.out
      exact ⟨by rw [hsz]; exact r5, r6, _, r1, by rw [outOf_snoc]; exact r2, r3, r4⟩
    · go_simp
      refine hK _ _ ?_
      clear hK K
      refine any_two (i := 0) (j := 2) (by kernel_rfl) rfl rfl (fun K hK => ?_) (fun K hK => ?_)
      · go_simp
        refine hK _ _ ?_
        clear hK K
        refine any_one (i := 2) (by kernel_rfl) rfl (fun K hK => ?_)
        go_simp
        refine ⟨trivial, (CallsIn.inRound l' (callsIn_wide.2 HPut.out)).mono ?_⟩
        rintro e w1 ⟨v1, rfl, ho1, hb1⟩
        obtain ⟨ao1, c1, ao2, n2, c2, w2, rfl, hrun, hc1, hc2, hf2, hR⟩ := HSt.out w1 v1 ho1 hb1
        have HRes := Lib.hid hR
        have HRun := Lib.hid hrun
        clear hR ho1 hb1 hrun
        dsimp only
        refine hK _ _ ?_
        clear hK K
        refine any_one (i := 3) (by kernel_rfl) rfl (fun K hK => ?_)
        refine step_run_in (fun _ => trivial) rfl _ _ rfl rfl rfl HRun.out ?_
        refine hK _ _ ?_
        clear hK K
        refine any_one (i := 4) (by kernel_rfl) rfl (fun K hK => ?_)
        go_simp
        refine hK _ _ ?_
        clear hK K
        refine wpAnyIn_done (by kernel_rfl) ?_ _
        obtain ⟨r1, r2, r3, r4, r5, r6⟩ := HRes.out
        exact ⟨by rw [hsz]; exact r5, r6, _, r1, by rw [outOf_snoc]; exact r2, r3, r4⟩
      · go_simp
        refine ⟨trivial, (CallsIn.inRound l' (callsIn_wide.2 HPut.out)).mono ?_⟩
        rintro e w1 ⟨v1, rfl, ho1, hb1⟩
        obtain ⟨ao1, c1, ao2, n2, c2, w2, rfl, hrun, hc1, hc2, hf2, hR⟩ := HSt.out w1 v1 ho1 hb1
        have HRes := Lib.hid hR
        have HRun := Lib.hid hrun
        clear hR ho1 hb1 hrun
        dsimp only
        refine hK _ _ ?_
        clear hK K
        refine any_one (i := 0) (by kernel_rfl) rfl (fun K hK => ?_)
        go_simp
        refine hK _ _ ?_
        clear hK K
        refine any_one (i := 3) (by kernel_rfl) rfl (fun K hK => ?_)
        refine step_run_in (fun _ => trivial) rfl _ _ rfl rfl rfl HRun.out ?_
        refine hK _ _ ?_
        clear hK K
        refine any_one (i := 4) (by kernel_rfl) rfl (fun K hK => ?_)
        go_simp
        refine hK _ _ ?_
        clear hK K
        refine wpAnyIn_done (by kernel_rfl) ?_ _
        obtain ⟨r1, r2, r3, r4, r5, r6⟩ := HRes.out
        exact ⟨by rw [hsz]; exact r5, r6, _, r1, by rw [outOf_snoc]; exact r2, r3, r4⟩
  case done =>
    rintro D ys W hD rfl ⟨v, hv, ho, hB, hsW⟩ hK
    have hc := blk_cell hv 0
    have hmx : Tryd.prog.follows .mixedOrders = true := by kernel_rfl
    gi_wp2
    have HLast := Lib.hid (Last_calls W.drew)
    have HLen : Hid ((outOf l (cidx n l.length l.length 0)).length ≤ l.length * 1048592) := Lib.hid (by
      exact Nat.le_trans (outOf_len l hl (cidx n l.length l.length 0)) (Nat.mul_le_mul_right _ (cidx_len n l.length l.length 0)))
    have HSt := Lib.hid (fun w1 v1 ho1 hb1 => wh_end (w1 := w1) (v1 := v1) (L := lastL) (D := D) rfl hv ho hB hsW hK ho1 hb1 (by
      have h2 := HLen.out
      have h3 : lastL.length = 5 := rfl
      omega))
    clear hv ho hB hK
    refine wpIn_region_any hmx ?_
    change wpAnyIn _ _ _ _ _ _ _ _ _ (World.drew _)
    refine any_two (i := 0) (j := 1) (by kernel_rfl) rfl rfl (fun K hK' => ?_) (fun K hK' => ?_)
    · go_simp
      refine hK' _ _ ?_
      clear hK' K
      refine any_one (i := 1) (by kernel_rfl) rfl (fun K hK' => ?_)
      go_simp
      refine ⟨trivial, (callsIn_wide.2 HLast.out).mono ?_⟩
      rintro e w1 ⟨v1, rfl, ho1, hb1⟩
      obtain ⟨ao1, c1, v2, w2, rfl, hrun, hc1, hR⟩ := HSt.out w1 v1 ho1 hb1
      have HRes := Lib.hid hR
      have HRun := Lib.hid hrun
      clear hR ho1 hb1 hrun
      dsimp only
      refine hK' _ _ ?_
      clear hK' K
      refine any_one (i := 2) (by kernel_rfl) rfl (fun K hK' => ?_)
      refine step_run_in (fun _ => trivial) rfl _ _ rfl rfl rfl HRun.out ?_
      refine hK' _ _ ?_
      clear hK' K
      refine any_one (i := 3) (by kernel_rfl) rfl (fun K hK' => ?_)
      go_simp
      refine hK' _ _ ?_
      clear hK' K
      refine any_one (i := 4) (by kernel_rfl) rfl (fun K hK' => ?_)
      go_simp
      refine hK' _ _ ?_
      clear hK' K
      refine wpAnyIn_done (by kernel_rfl) ?_ _
      obtain ⟨r1, r2, r3⟩ := HRes.out
      gi_wp2
      refine ⟨by simp, .inl ⟨_, _, rfl, run_takeDeferred r1, ?_⟩⟩
      exact ⟨.tuple #[v2, .int .i64 0], by simp [results, Tryd.results17, go_sem], v2, rfl, ow_put r2 r1 rfl _, r3.trans (belowK_b (w := w) (Nat.le_refl _) w2 D _ _ (by omega) r1 rfl rfl)⟩
    · go_simp
      refine ⟨trivial, (callsIn_wide.2 HLast.out).mono ?_⟩
      rintro e w1 ⟨v1, rfl, ho1, hb1⟩
      obtain ⟨ao1, c1, v2, w2, rfl, hrun, hc1, hR⟩ := HSt.out w1 v1 ho1 hb1
      have HRes := Lib.hid hR
      have HRun := Lib.hid hrun
      clear hR ho1 hb1 hrun
      dsimp only
      refine hK' _ _ ?_
      clear hK' K
      refine any_one (i := 0) (by kernel_rfl) rfl (fun K hK' => ?_)
      go_simp
      refine hK' _ _ ?_
      clear hK' K
      refine any_one (i := 2) (by kernel_rfl) rfl (fun K hK' => ?_)
      refine step_run_in (fun _ => trivial) rfl _ _ rfl rfl rfl HRun.out ?_
      refine hK' _ _ ?_
      clear hK' K
      refine any_one (i := 3) (by kernel_rfl) rfl (fun K hK' => ?_)
      go_simp
      refine hK' _ _ ?_
      clear hK' K
      refine any_one (i := 4) (by kernel_rfl) rfl (fun K hK' => ?_)
      go_simp
      refine hK' _ _ ?_
      clear hK' K
      refine wpAnyIn_done (by kernel_rfl) ?_ _
      obtain ⟨r1, r2, r3⟩ := HRes.out
      gi_wp2
      refine ⟨by simp, .inl ⟨_, _, rfl, run_takeDeferred r1, ?_⟩⟩
      exact ⟨.tuple #[v2, .int .i64 0], by simp [results, Tryd.results17, go_sem], v2, rfl, ow_put r2 r1 rfl _, r3.trans (belowK_b (w := w) (Nat.le_refl _) w2 D _ _ (by omega) r1 rfl rfl)⟩
  case stop =>
    rintro D c pre W _ _ h _
    exact h.elim
set_option maxRecDepth 100000 in
set_option maxHeartbeats 2000000 in
theorem Whole_nil (w : World) (ao : Option Addr) (l : List UInt8) (hl : l = []) (c : Nat) (n : Nat) (hn : 1 ≤ n) (hn2 : n ≤ 9223372036854775807) :
    Calls Tryd.prog 17 #[.slice ao 0 c, .int .i64 n] w fun e w' => ∃ v', e = .returned (.tuple #[v', .int .i64 0]) ∧ Ow w' w.heap.size v' (wholeL l n) ∧ Below w.heap.size w w' := by
  subst hl
  refine (callsIn_wide (n := 9)).1 ?_
  refine callsIn_of_wp_marks Tryd.func17 rfl trivial ?_ rfl
  simp only [Tryd.ntmps17, List.size_toArray, List.length_cons, List.length_nil, Nat.reduceAdd, Nat.reduceSub, Array.replicate_succ, Array.replicate_zero, List.push_toArray, List.append_toArray, List.nil_append, List.cons_append]
  have hd1 : decide ((n : Int) < 1) = false := decide_eq_false (by omega)
  gi_wp2_with (refine ⟨trivial, ?_⟩; gi_at_call 25; refine (callsIn_wide.2 (Chunk_calls _ _ _ _ (by omega) _)).mono ?_; rintro e w' ⟨rfl, rfl⟩)
  obtain ⟨W0, hW0⟩ : ∃ W0, ((w.alloc (Obj.cells #[Value.slice none 0 0] 24)).alloc (Obj.cells #[Value.slice ao 0 c] 24)).alloc (Obj.cells #[Value.int .i64 n] 3) = W0 := ⟨_, rfl⟩
  have hsz : W0.heap.size = w.heap.size + 3 := by rw [← hW0]; simp
  have hb0 : Below w.heap.size w W0 := by rw [← hW0]; exact (((Below.refl _ w).alloc (Nat.le_refl _) _).alloc (by simp) _).alloc (by simp; omega) _
  have k0 : W0.heap[w.heap.size]? = some (.cells #[.slice none 0 0] 24 (0, 0)) := by
    rw [← hW0, Below.heap_alloc _ _ _ (by simp; omega), Below.heap_alloc _ _ _ (by simp)]; exact heap_alloc_new w _
  have k1 : W0.cell? ⟨w.heap.size + 1, 0, none⟩ = some (.slice ao 0 c) := by
    have h := heap_alloc_new (w.alloc (Obj.cells #[Value.slice none 0 0] 24)) (Obj.cells #[Value.slice ao 0 c] 24)
    rw [World.size_alloc] at h
    refine (blk_cell (cs := #[.slice ao 0 c]) (t := 24) ?_ 0).trans rfl
    rw [← hW0, Below.heap_alloc _ _ _ (by simp)]
    exact h
  have k2 : W0.cell? ⟨w.heap.size + 2, 0, none⟩ = some (.int .i64 n) := by
    have h := heap_alloc_new ((w.alloc (Obj.cells #[Value.slice none 0 0] 24)).alloc (Obj.cells #[Value.slice ao 0 c] 24)) (Obj.cells #[Value.int .i64 n] 3)
    rw [World.size_alloc, World.size_alloc] at h
    refine (blk_cell (cs := #[.int .i64 n]) (t := 3) ?_ 0).trans rfl
    rw [← hW0]
    exact h
  rw [hW0]
  clear hW0
  have hI0 : WhI w [] [] W0 := ⟨_, k0, Ow.nil _ _, hb0, by omega⟩
  refine wpIn_rangeFunc_ownG rfl (by omega) (gf := 35) (lb := #[.pointer (some ⟨w.heap.size + 1, 0, none⟩), .pointer (some ⟨w.heap.size + 1 + 1, 0, none⟩)]) rfl trivial (enters_of Tryd.func35 (by kernel_rfl) rfl)
    (Chunk_stops_nil 8 (w.heap.size + 1) 0 0 ao c W0 (by omega) k1) KpG.trans (fun W l _ o' hl _ _ _ => KpG.put W l o' (by omega)) (Below.refl _ _) (fun _ => rfl)
    (WhI w []) (fun _ _ _ => False) (by rw [hsz]; exact WhI.own w []) (fun _ _ _ _ _ hs _ _ => hs) hI0
    (fun x => { tmps := #[.slice ao 0 c, .int .i64 n, undef, undef, .slice none 0 0, .int .i64 0, .pointer (some ⟨w.heap.size, 0, none⟩), .slice (some ⟨0, x.1.1, none⟩) x.1.2 x.1.2, .int .i64 n, .bool false, .slice ao 0 c, .int .i64 n,
      .func (.func 35) #[] #[.pointer (some ⟨w.heap.size + 1, 0, none⟩), .pointer (some ⟨w.heap.size + 1 + 1, 0, none⟩)], .slice (some ⟨0, x.1.1, none⟩) x.1.2 x.1.2, undef, undef, undef, undef, undef, undef, undef], defers := [] }) ?assign ?body ?done ?stop
  case assign =>
    intro l' x W K hK
    gi_wp2
    exact hK
  case body =>
    intro l' pre x W _ hlt
    exact absurd hlt (Nat.not_lt_zero _)
  case done =>
    rintro D ys W hD rfl ⟨v, hv, ho, hB, hsW⟩ hK
    have hc := blk_cell hv 0
    have hmx : Tryd.prog.follows .mixedOrders = true := by kernel_rfl
    gi_wp2
    have HLast := Lib.hid (Last_calls W.drew)
    have HSt := Lib.hid (fun w1 v1 ho1 hb1 => wh_end (w1 := w1) (v1 := v1) (L := lastL) (D := D) rfl hv ho hB hsW hK ho1 hb1 (by
      have h2 : (outOf [] ([] : List { x : Nat × Nat // x.1 + x.2 ≤ ([] : List UInt8).length })).length = 0 := rfl
      have h3 : lastL.length = 5 := rfl
      omega))
    clear hv ho hB hK
    refine wpIn_region_any hmx ?_
    change wpAnyIn _ _ _ _ _ _ _ _ _ (World.drew _)
    refine any_two (i := 0) (j := 1) (by kernel_rfl) rfl rfl (fun K hK' => ?_) (fun K hK' => ?_)
    · go_simp
      refine hK' _ _ ?_
      clear hK' K
      refine any_one (i := 1) (by kernel_rfl) rfl (fun K hK' => ?_)
      go_simp
      refine ⟨trivial, (callsIn_wide.2 HLast.out).mono ?_⟩
      rintro e w1 ⟨v1, rfl, ho1, hb1⟩
      obtain ⟨ao1, c1, v2, w2, rfl, hrun, hc1, hR⟩ := HSt.out w1 v1 ho1 hb1
      have HRes := Lib.hid hR
      have HRun := Lib.hid hrun
      clear hR ho1 hb1 hrun
      dsimp only
      refine hK' _ _ ?_
      clear hK' K
      refine any_one (i := 2) (by kernel_rfl) rfl (fun K hK' => ?_)
      refine step_run_in (fun _ => trivial) rfl _ _ rfl rfl rfl HRun.out ?_
      refine hK' _ _ ?_
      clear hK' K
      refine any_one (i := 3) (by kernel_rfl) rfl (fun K hK' => ?_)
      go_simp
      refine hK' _ _ ?_
      clear hK' K
      refine any_one (i := 4) (by kernel_rfl) rfl (fun K hK' => ?_)
      go_simp
      refine hK' _ _ ?_
      clear hK' K
      refine wpAnyIn_done (by kernel_rfl) ?_ _
      obtain ⟨r1, r2, r3⟩ := HRes.out
      gi_wp2
      refine ⟨by simp, .inl ⟨_, _, rfl, run_takeDeferred r1, ?_⟩⟩
      exact ⟨.tuple #[v2, .int .i64 0], by simp [results, Tryd.results17, go_sem], v2, rfl, ow_put r2 r1 rfl _, r3.trans (belowK_b (w := w) (Nat.le_refl _) w2 D _ _ (by omega) r1 rfl rfl)⟩
    · go_simp
      refine ⟨trivial, (callsIn_wide.2 HLast.out).mono ?_⟩
      rintro e w1 ⟨v1, rfl, ho1, hb1⟩
      obtain ⟨ao1, c1, v2, w2, rfl, hrun, hc1, hR⟩ := HSt.out w1 v1 ho1 hb1
      have HRes := Lib.hid hR
      have HRun := Lib.hid hrun
      clear hR ho1 hb1 hrun
      dsimp only
      refine hK' _ _ ?_
      clear hK' K
      refine any_one (i := 0) (by kernel_rfl) rfl (fun K hK' => ?_)
      go_simp
      refine hK' _ _ ?_
      clear hK' K
      refine any_one (i := 2) (by kernel_rfl) rfl (fun K hK' => ?_)
      refine step_run_in (fun _ => trivial) rfl _ _ rfl rfl rfl HRun.out ?_
      refine hK' _ _ ?_
      clear hK' K
      refine any_one (i := 3) (by kernel_rfl) rfl (fun K hK' => ?_)
      go_simp
      refine hK' _ _ ?_
      clear hK' K
      refine any_one (i := 4) (by kernel_rfl) rfl (fun K hK' => ?_)
      go_simp
      refine hK' _ _ ?_
      clear hK' K
      refine wpAnyIn_done (by kernel_rfl) ?_ _
      obtain ⟨r1, r2, r3⟩ := HRes.out
      gi_wp2
      refine ⟨by simp, .inl ⟨_, _, rfl, run_takeDeferred r1, ?_⟩⟩
      exact ⟨.tuple #[v2, .int .i64 0], by simp [results, Tryd.results17, go_sem], v2, rfl, ow_put r2 r1 rfl _, r3.trans (belowK_b (w := w) (Nat.le_refl _) w2 D _ _ (by omega) r1 rfl rfl)⟩
  case stop =>
    rintro D c pre W _ _ h _
    exact h.elim
set_option maxHeartbeats 400000 in
theorem Whole_err (w : World) (v : Value) (n : Int) (hn : n < 1) :
    Calls Tryd.prog 17 #[v, .int .i64 n] w fun e w' => e = .returned (.tuple #[.slice none 0 0, .int .i64 1]) ∧ w = w' := by
  go_enter Tryd.func17, Tryd.ntmps17
  go_wp2
  go_ret2
  exact ⟨rfl, rfl⟩

/-- a body of any bytes, in chunks of any size -/
theorem Whole_calls (w : World) (hT : Tz16 w) (ao : Option Addr) (l : List UInt8) (c : Nat) (hl : l.length ≤ 1048576) (hcap : l.length ≤ c) (hb : Bs w ao l) (n : Nat) (hn : 1 ≤ n) (hn2 : n ≤ 9223372036854775807) :
    Calls Tryd.prog 17 #[.slice ao l.length c, .int .i64 n] w fun e w' => ∃ v', e = .returned (.tuple #[v', .int .i64 0]) ∧ Ow w' w.heap.size v' (wholeL l n) ∧ Below w.heap.size w w' := by
  by_cases h0 : l = []
  · have := Whole_nil w ao l h0 c n hn hn2
    rw [show l.length = 0 from by rw [h0]; rfl]
    exact this
  · obtain ⟨b, off, rfl⟩ := hb.some_of (List.length_pos_iff.2 h0)
    exact Whole_some w hT b off l c (List.length_pos_iff.2 h0) hl hcap hb n hn hn2
end Go.Proofs.YtiaafndkbcpbdaaDoor
