/- The body reader (frame.New, Take, Done, End), the laws' own helpers, and what comes in. No condition of its own. -/
import Derived.Test.YteneioapchhehaaDoorMa
import Derived.Test.YteneioapchhehaaDoorMb
import Derived.Lib.LazyBuf
import Derived.OpenShut
import Derived.ChangeOld
import Derived.WideShapes
import Derived.ChangeSame
import Derived.Test.YteneioapchhehaaDoorRows
import Derived.ProofKit
import Derived.Deep.DeepHandedRow
import Derived.Deep.DeepWitnessRowRef
import Derived.Lib.LaidTab
import Derived.Stop.LaidErr
/- Package chunk: Take, Whole as other chapters call them. -/
namespace Go.Proofs.YteneioapchhehaaDoor
open Go.RowKit

theorem Take_calls (w : World) (g : Nat) (r : Rd) (hi : RdI r) (h : RdAt w g r) (hE : ErrVar 0 w) (hg : 0 < g) (ao : Option Addr) (l : List UInt8) (hl : l.length ≤ 1099511627776) (c : Nat) (hc : l.length ≤ c) (hb : Bs w ao l) :
    Calls Tryd.prog 42 #[.pointer (some ⟨g, 0, none⟩), .slice ao l.length c] w (TkPost w g (takeA r l)) := by
  unfold takeA
  by_cases h11 : r.st = 11
  · rw [if_pos h11]; exact Take_broken w g r h11 h _
  · rw [if_neg h11]; exact Take_run w g r hi (by have := hi.st; omega) h hE hg ao l hl c hc hb

theorem Tz16.below {w w' : World} (h : Tz16 w) (hb : Below w.heap.size w w') : Tz16 w' := (hb.cell (p := ⟨7, 15, none⟩) (World.block_lt_of_cell? w _ h)).trans h

/-- the package variables that chunk reads -/
structure Gv (w : World) : Prop where
  tz : Tz16 w
  es : ErrVar 0 w
theorem Gv.below {w w' : World} (h : Gv w) (hb : Below w.heap.size w w') : Gv w' := ⟨h.tz.below hb, GV_below h.es hb⟩
theorem Gv.ch {S : Nat → Prop} {w w' : World} (h : Gv w) (hc : Ch S w w') (hS : ∀ k, S k → 7 < k ∧ 0 < k) : Gv w' :=
  ⟨(World.cell?_of_block (w := w) (a := ⟨7, 15, none⟩) (hc.block 7 (World.block_lt_of_cell? w _ h.tz) (fun hs => Nat.lt_irrefl _ (hS _ hs).1))).trans h.tz, h.es.ch hc (fun hs => Nat.lt_irrefl _ (hS _ hs).2)⟩
theorem Gv.lt {w : World} (h : Gv w) : 7 < w.heap.size ∧ 0 < w.heap.size := ⟨World.block_lt_of_cell? w _ h.tz, h.es.lt⟩

/-- Take of a constant -/
theorem Take_const (w : World) (g : Nat) (r : Rd) (hi : RdI r) (h : RdAt w g r) (hG : Gv w) (hg : 0 < g) (L : List UInt8) (hl : L.length ≤ 1000) (fr : Nat × Nat) :
    Calls Tryd.prog 42 #[.pointer (some ⟨g, 0, none⟩), .slice (some ⟨w.heap.size, 0, none⟩) L.length L.length] (w.alloc (.cells (L.map bv).toArray 5 fr)) fun e w' =>
      ∃ ao c, e = .returned (.tuple #[.slice ao (takeA r L).2.1.length c, .int .i64 (takeA r L).2.2.1, .int .i64 (errN (takeA r L).2.2.2)]) ∧ Bs w' ao (takeA r L).2.1 ∧ RdAt w' g (takeA r L).1 ∧ Ch (· = g) w w' := by
  have hb := (Below.refl w.heap.size w).alloc (Nat.le_refl _) (.cells (L.map bv).toArray 5 fr)
  refine (Take_calls (w.alloc (.cells (L.map bv).toArray 5 fr)) g r hi (h.below hb) (GV_below hG.es hb) hg (some ⟨w.heap.size, 0, none⟩) L (by omega) L.length (Nat.le_refl _) (Bs.of_block (heap_alloc_new w _))).mono ?_
  rintro e w' ⟨ov, rfl, ho, hr, hc⟩
  obtain ⟨ao, c, rfl, h1, -⟩ := ho.bs'
  exact ⟨ao, c, rfl, h1, hr, (Ch.of_below (S := (· = g)) hb).trans hc⟩
theorem Whole_const (w : World) (hG : Gv w) (L : List UInt8) (hl : L.length ≤ 1000) (fr : Nat × Nat) (n : Nat) (hn : 1 ≤ n) (hn2 : n ≤ 1000) :
    Calls Tryd.prog 25 #[.slice (some ⟨w.heap.size, 0, none⟩) L.length L.length, .int .i64 n] (w.alloc (.cells (L.map bv).toArray 5 fr)) fun e w' =>
      ∃ ao c, e = .returned (.tuple #[.slice ao (wholeL L n).length c, .int .i64 0]) ∧ Bs w' ao (wholeL L n) ∧ Below w.heap.size w w' := by
  have hb := (Below.refl w.heap.size w).alloc (Nat.le_refl _) (.cells (L.map bv).toArray 5 fr)
  refine (Whole_calls (w.alloc (.cells (L.map bv).toArray 5 fr)) (hG.tz.below hb) (some ⟨w.heap.size, 0, none⟩) L L.length (by omega) (Nat.le_refl _) (Bs.of_block (heap_alloc_new w _)) n hn (by omega)).mono ?_
  rintro e w' ⟨ov, rfl, ho, hc⟩
  obtain ⟨ao, c, rfl, h1, -⟩ := ho.bs'
  exact ⟨ao, c, rfl, h1, hb.trans (hc.mono hb.size)⟩

end Go.Proofs.YteneioapchhehaaDoor

/- Plain laws of a reader's Take. -/
namespace Go.Proofs.YteneioapchhehaaDoor
open Go.RowKit

/-- what is so behind any bytes -/
structure TkOk (r : Rd) (l out : List UInt8) (k : Nat) (q : Rd × List UInt8 × Nat × Bool) : Prop where
  i : RdI q.1
  ok : q.2.2.2 = true → q.1.st ≤ 10 ∧ k ≤ q.2.2.1 ∧ q.2.2.1 ≤ k + l.length ∧ out.length ≤ q.2.1.length ∧ q.2.1.length ≤ out.length + l.length
  er : q.2.2.2 = false → q.1.st = 11 ∧ q.2.1 = [] ∧ k ≤ q.2.2.1 ∧ q.2.2.1 ≤ k + l.length

theorem runA_ok : ∀ (l : List UInt8) (r : Rd) (out : List UInt8) (k : Nat), RdI r → r.st ≤ 10 → TkOk r l out k (runA r l out k)
  | [], r, out, k, hi, hr => ⟨hi, fun _ => ⟨hr, Nat.le_refl _, Nat.le_refl _, Nat.le_refl _, Nat.le_refl _⟩, fun h => by cases h⟩
  | c :: l, r, out, k, hi, hr => by
    rw [runA]
    split
    · exact ⟨hi, fun _ => ⟨hr, Nat.le_refl _, by dsimp only; omega, Nat.le_refl _, by dsimp only; omega⟩, fun h => by cases h⟩
    · split
      · rename_i h3
        have hd := hi.data h3
        have := runA_ok l (dataS r) (out ++ [c]) (k + 1) hd (by unfold dataS; dsimp only; split <;> omega)
        refine ⟨this.i, fun h => ?_, fun h => ?_⟩
        · have := this.ok h
          simp only [List.length_append, List.length_cons, List.length_nil] at this ⊢
          omega
        · have := this.er h
          simp only [List.length_cons] at this ⊢
          exact ⟨this.1, this.2.1, by omega, by omega⟩
      · split
        · rename_i hb
          have := runA_ok l (takeS r c.toNat).1 out (k + 1) (hi.take _ hb) (hi.take_st _ hr hb)
          refine ⟨this.i, fun h => ?_, fun h => ?_⟩
          · have := this.ok h
            simp only [List.length_cons] at this ⊢
            omega
          · have := this.er h
            simp only [List.length_cons] at this ⊢
            exact ⟨this.1, this.2.1, by omega, by omega⟩
        · exact ⟨hi.broken _, fun h => (by cases h), fun _ => ⟨rfl, rfl, Nat.le_refl _, by dsimp only; omega⟩⟩

theorem takeA_i {r : Rd} (hi : RdI r) (l : List UInt8) : RdI (takeA r l).1 := by
  unfold takeA
  split
  · exact hi
  · exact (runA_ok l r [] 0 hi (by have := hi.st; omega)).i
theorem takeA_er {r : Rd} (hi : RdI r) (l : List UInt8) (h : (takeA r l).2.2.2 = false) : (takeA r l).1.st = 11 ∧ (takeA r l).2.1 = [] := by
  unfold takeA at h ⊢
  split
  · rename_i h11; exact ⟨h11, rfl⟩
  · rename_i h11
    rw [if_neg h11] at h
    have := (runA_ok l r [] 0 hi (by have := hi.st; omega)).er h
    exact ⟨this.1, this.2.1⟩
theorem takeA_ok {r : Rd} (hi : RdI r) (l : List UInt8) (h : (takeA r l).2.2.2 = true) : (takeA r l).1.st ≤ 10 ∧ (takeA r l).2.2.1 ≤ l.length ∧ (takeA r l).2.1.length ≤ l.length := by
  unfold takeA at h ⊢
  split
  · rename_i h11; rw [if_pos h11] at h; cases h
  · rename_i h11
    rw [if_neg h11] at h
    have := (runA_ok l r [] 0 hi (by have := hi.st; omega)).ok h
    simp only [List.length_nil, Nat.zero_add] at this
    exact ⟨this.1, this.2.2.1, this.2.2.2.2⟩
theorem takeA_len {r : Rd} (hi : RdI r) (l : List UInt8) : (takeA r l).2.1.length ≤ l.length ∧ (takeA r l).2.2.1 ≤ l.length := by
  cases h : (takeA r l).2.2.2 with
  | true => have := takeA_ok hi l h; exact ⟨this.2.2, this.2.1⟩
  | false =>
    rw [(takeA_er hi l h).2]
    refine ⟨Nat.zero_le _, ?_⟩
    unfold takeA at h ⊢
    split
    · exact Nat.zero_le _
    · rename_i h11
      rw [if_neg h11] at h
      have := (runA_ok l r [] 0 hi (by have := hi.st; omega)).er h
      omega
theorem takeA_broken {r : Rd} (h : r.st = 11) (l : List UInt8) : takeA r l = (r, [], 0, false) := if_pos h
theorem takeA_done {r : Rd} (h : r.st = 10) (l : List UInt8) : takeA r l = (r, [], 0, true) := by
  unfold takeA
  rw [if_neg (by omega)]
  cases l with
  | nil => rfl
  | cons c l => rw [runA, if_pos h]

/-- one piece behind the other -/
theorem runA_app : ∀ (l m : List UInt8) (r : Rd) (out : List UInt8) (k : Nat),
    runA r (l ++ m) out k = if (runA r l out k).2.2.2 = true then runA (runA r l out k).1 m (runA r l out k).2.1 (runA r l out k).2.2.1 else runA r l out k
  | [], m, r, out, k => by simp [runA]
  | c :: l, m, r, out, k => by
    rw [List.cons_append, runA]
    by_cases h10 : r.st = 10
    · have e1 : runA r (c :: l) out k = (r, out, k, true) := by rw [runA, if_pos h10]
      rw [if_pos h10, e1]
      dsimp only
      rw [if_pos rfl]
      cases m with
      | nil => rfl
      | cons d m => rw [runA, if_pos h10]
    · rw [if_neg h10]
      by_cases h3 : r.st = 3
      · have e1 : runA r (c :: l) out k = runA (dataS r) l (out ++ [c]) (k + 1) := by rw [runA, if_neg h10, if_pos h3]
        rw [if_pos h3, e1, runA_app l m]
      · rw [if_neg h3]
        by_cases hb : (takeS r c.toNat).2 = true
        · have e1 : runA r (c :: l) out k = runA (takeS r c.toNat).1 l out (k + 1) := by rw [runA, if_neg h10, if_neg h3, if_pos hb]
          rw [if_pos hb, e1, runA_app l m]
        · have e1 : runA r (c :: l) out k = ({ (takeS r c.toNat).1 with st := 11 }, [], k, false) := by rw [runA, if_neg h10, if_neg h3, if_neg hb]
          rw [if_neg hb, e1]
          dsimp only
          rw [if_neg (by decide)]

/-- what was told before, and how many -/
theorem runA_from : ∀ (l : List UInt8) (r : Rd) (out : List UInt8) (k : Nat),
    runA r l out k = ((runA r l [] 0).1, (if (runA r l [] 0).2.2.2 = true then out ++ (runA r l [] 0).2.1 else []), k + (runA r l [] 0).2.2.1, (runA r l [] 0).2.2.2)
  | [], r, out, k => by simp [runA]
  | c :: l, r, out, k => by
    by_cases h10 : r.st = 10
    · have e : ∀ o k, runA r (c :: l) o k = (r, o, k, true) := fun o k => by rw [runA, if_pos h10]
      rw [e, e]; simp
    · by_cases h3 : r.st = 3
      · have e : ∀ o k, runA r (c :: l) o k = runA (dataS r) l (o ++ [c]) (k + 1) := fun o k => by rw [runA, if_neg h10, if_pos h3]
        rw [e, e, runA_from l _ (out ++ [c]), runA_from l _ ([] ++ [c])]
        simp only [Prod.mk.injEq, true_and, and_true]
        constructor
        · cases (runA (dataS r) l [] 0).2.2.2 <;> simp
        · omega
      · by_cases hb : (takeS r c.toNat).2 = true
        · have e : ∀ o k, runA r (c :: l) o k = runA (takeS r c.toNat).1 l o (k + 1) := fun o k => by rw [runA, if_neg h10, if_neg h3, if_pos hb]
          rw [e, e, runA_from l _ out (k + 1), runA_from l _ [] (0 + 1)]
          simp only [Prod.mk.injEq, true_and, and_true]
          constructor
          · cases (runA (takeS r c.toNat).1 l [] 0).2.2.2 <;> simp
          · omega
        · have e : ∀ o k, runA r (c :: l) o k = ({ (takeS r c.toNat).1 with st := 11 }, [], k, false) := fun o k => by rw [runA, if_neg h10, if_neg h3, if_neg hb]
          rw [e, e]; simp

/-- pieces -/
theorem takeA_app {r : Rd} (hi : RdI r) (l m : List UInt8) (h : (takeA r l).2.2.2 = true) :
    takeA r (l ++ m) = ((takeA (takeA r l).1 m).1, (if (takeA (takeA r l).1 m).2.2.2 = true then (takeA r l).2.1 ++ (takeA (takeA r l).1 m).2.1 else []), (takeA r l).2.2.1 + (takeA (takeA r l).1 m).2.2.1, (takeA (takeA r l).1 m).2.2.2) := by
  have h1 := (takeA_ok hi l h).1
  have h11 : ¬ r.st = 11 := by intro e; rw [takeA_broken e] at h; cases h
  have e1 : takeA r l = runA r l [] 0 := if_neg h11
  have e2 : takeA r (l ++ m) = runA r (l ++ m) [] 0 := if_neg h11
  have e3 : takeA (takeA r l).1 m = runA (takeA r l).1 m [] 0 := if_neg (by omega)
  rw [e3, e2, runA_app, e1, if_pos (e1 ▸ h)]
  exact runA_from m _ _ _
theorem takeA_app_er {r : Rd} (l m : List UInt8) (h : (takeA r l).2.2.2 = false) : takeA r (l ++ m) = takeA r l := by
  by_cases h11 : r.st = 11
  · rw [takeA_broken h11, takeA_broken h11]
  · have e1 : takeA r l = runA r l [] 0 := if_neg h11
    have e2 : takeA r (l ++ m) = runA r (l ++ m) [] 0 := if_neg h11
    rw [e1, e2, runA_app, ← e1, if_neg (by rw [h]; decide)]
end Go.Proofs.YteneioapchhehaaDoor

/- Plain laws: what is put is read as it was. -/
namespace Go.Proofs.YteneioapchhehaaDoor
open Go.RowKit

theorem hexDig_val (d : Nat) (h : d < 16) : hexV ((hexDig d).toNat : Int) = d := by
  have : ∀ d : Fin 16, hexV ((hexDig d.val).toNat : Int) = d.val := by decide
  exact this ⟨d, h⟩
theorem takeS_dig (ln : Nat) (lf d : Nat) (hl : ln < 15) (h : d < 16) : takeS ⟨0, ln, 0, lf⟩ ((hexDig d).toNat : Int) = (⟨0, ln + 1, 0, lf * 16 + d⟩, true) := by
  unfold takeS
  rw [hexDig_val d h, if_pos rfl, if_pos ⟨by omega, by dsimp only; omega⟩]
theorem takeS_dig0 (d : Nat) (h : d < 16) : takeS ⟨0, 0, 0, 0⟩ ((hexDig d).toNat : Int) = (⟨0, 1, 0, d⟩, true) := by
  have := takeS_dig 0 0 d (by omega) h
  simpa using this
theorem runA_step {r : Rd} {c : UInt8} {l out : List UInt8} {k : Nat} {r' : Rd} (h1 : ¬ r.st = 10) (h3 : ¬ r.st = 3) (h : takeS r (c.toNat : Int) = (r', true)) : runA r (c :: l) out k = runA r' l out (k + 1) := by
  rw [runA, if_neg h1, if_neg h3, h, if_pos rfl]

theorem runA_hex : ∀ (m : Nat) (n : Nat), n < 16 ^ (m + 1) → m ≤ 13 → ∀ (rest out : List UInt8) (k : Nat),
    runA ⟨0, 0, 0, 0⟩ (hexL n ++ rest) out k = runA ⟨0, (hexL n).length, 0, n⟩ rest out (k + (hexL n).length) := by
  intro m
  induction m with
  | zero =>
    intro n hn _ rest out k
    rw [hexL_last n (by omega), List.singleton_append, runA_step (by decide) (by decide) (takeS_dig0 n (by omega))]
    simp
  | succ m ih =>
    intro n hn hm rest out k
    by_cases h16 : n < 16
    · rw [hexL_last n h16, List.singleton_append, runA_step (by decide) (by decide) (takeS_dig0 n h16)]
      simp
    · have hq : n / 16 < 16 ^ (m + 1) := pow16_step n (m + 1) hn
      have hlen : (hexL (n / 16)).length ≤ m + 1 := hexL_len _ _ hq
      rw [hexL_step n (by omega), List.append_assoc, List.singleton_append, ih (n / 16) hq (by omega),
        runA_step (by dsimp only; omega) (by dsimp only; omega) (takeS_dig (hexL (n / 16)).length (n / 16) (n % 16) (by omega) (by omega))]
      have e1 : (n / 16 * 16 + n % 16 : Nat) = n := by omega
      have e2 : ((n / 16 : Nat) : Int) * 16 + ((n % 16 : Nat) : Int) = (n : Int) := by omega
      rw [e2, List.length_append]
      rfl

theorem hexL_pos (n : Nat) : 1 ≤ (hexL n).length := by
  by_cases h : n < 16
  · rw [hexL_last n h]; simp
  · rw [hexL_step n (by omega)]; simp

/-- a chunk, read -/
theorem runA_put (l : List UInt8) (hl : l.length < 16 ^ 12) (rest out : List UInt8) (k : Nat) :
    runA ⟨0, 0, 0, 0⟩ (putL l ++ rest) out k = runA ⟨0, 0, 0, 0⟩ rest (out ++ l) (k + (putL l).length) := by
  by_cases h0 : l = []
  · subst h0
    simp [putL]
  have hpos : 0 < l.length := List.length_pos_iff.2 h0
  have hp : putL l = hexL l.length ++ [13, 10] ++ l ++ [13, 10] := if_neg h0
  have hlen := hexL_len l.length 11 hl
  have hlen1 := hexL_pos l.length
  rw [hp, List.append_assoc, List.append_assoc, List.append_assoc, runA_hex 11 _ hl (by omega)]
  generalize hexL l.length = H at *
  have s1 : takeS ⟨0, H.length, 0, l.length⟩ (((13 : UInt8).toNat : Nat) : Int) = (⟨2, 0, 0, l.length⟩, true) := by
    unfold takeS
    rw [if_pos rfl, if_neg (by rintro ⟨h, _⟩; exact absurd h (by decide)), if_neg (by dsimp only; omega), if_neg (by decide)]
    rfl
  have s2 : takeS ⟨2, 0, 0, l.length⟩ (((10 : UInt8).toNat : Nat) : Int) = (⟨3, 0, 0, l.length⟩, true) := by
    have : sizedN (l.length : Int) = 3 := if_neg (by omega)
    unfold takeS
    dsimp only
    rw [this]
    rfl
  rw [show ([13, 10] : List UInt8) ++ (l ++ ([13, 10] ++ rest)) = 13 :: 10 :: (l ++ (13 :: 10 :: rest)) from rfl,
    runA_step (by dsimp only; omega) (by dsimp only; omega) s1, runA_step (by dsimp only; omega) (by dsimp only; omega) s2, runA_data l.length _ _ _ _ rfl hpos (by dsimp only; omega) (by simp)]
  dsimp only
  rw [if_pos (by omega), List.drop_left, List.take_left, show (l.length : Int) - (l.length : Int) = 0 from by omega,
    runA_step (r' := ⟨5, 0, 0, 0⟩) (by decide) (by decide) rfl, runA_step (r' := ⟨0, 0, 0, 0⟩) (by decide) (by decide) rfl]
  congr 1
  simp only [List.length_append, List.length_cons, List.length_nil]
  omega

/-- chunks one behind the other -/
def putsL (ls : List (List UInt8)) : List UInt8 := (ls.map putL).flatten
theorem runA_puts : ∀ (ls : List (List UInt8)) (_ : ∀ l ∈ ls, l.length < 16 ^ 12) (rest out : List UInt8) (k : Nat),
    runA ⟨0, 0, 0, 0⟩ (putsL ls ++ rest) out k = runA ⟨0, 0, 0, 0⟩ rest (out ++ ls.flatten) (k + (putsL ls).length)
  | [], _, rest, out, k => by simp [putsL]
  | l :: ls, h, rest, out, k => by
    have e : putsL (l :: ls) = putL l ++ putsL ls := rfl
    rw [e, List.append_assoc, runA_put l (h l List.mem_cons_self), runA_puts ls (fun x hx => h x (List.mem_cons_of_mem _ hx))]
    simp only [List.flatten_cons, List.append_assoc, List.length_append]
    congr 1
    omega

/-- .. and the last one, and what is behind -/
theorem takeA_puts (ls : List (List UInt8)) (h : ∀ l ∈ ls, l.length < 16 ^ 12) (rest : List UInt8) :
    takeA ⟨0, 0, 0, 0⟩ (putsL ls ++ lastL ++ rest) = (⟨10, 0, 0, 0⟩, ls.flatten, (putsL ls ++ lastL).length, true) := by
  have e : takeA ⟨0, 0, 0, 0⟩ (putsL ls ++ lastL ++ rest) = runA ⟨0, 0, 0, 0⟩ (putsL ls ++ lastL ++ rest) [] 0 := if_neg (by decide)
  rw [e, List.append_assoc, runA_puts ls h, show lastL ++ rest = 48 :: 13 :: 10 :: 13 :: 10 :: rest from rfl,
    runA_step (r' := ⟨0, 1, 0, 0⟩) (by decide) (by decide) rfl, runA_step (r' := ⟨2, 0, 0, 0⟩) (by decide) (by decide) rfl, runA_step (r' := ⟨6, 0, 0, 0⟩) (by decide) (by decide) rfl,
    runA_step (r' := ⟨9, 0, 0, 0⟩) (by decide) (by decide) rfl, runA_step (r' := ⟨10, 0, 0, 0⟩) (by decide) (by decide) rfl]
  have e2 : ∀ o k, runA ⟨10, 0, 0, 0⟩ rest o k = (⟨10, 0, 0, 0⟩, o, k, true) := by
    intro o k
    cases rest with
    | nil => rfl
    | cons c l => rw [runA, if_pos rfl]
  rw [e2]
  simp [lastL]
theorem takeA_cut (ls : List (List UInt8)) (h : ∀ l ∈ ls, l.length < 16 ^ 12) :
    takeA ⟨0, 0, 0, 0⟩ ((putsL ls ++ lastL).take ((putsL ls ++ lastL).length - 1)) = (⟨9, 0, 0, 0⟩, ls.flatten, (putsL ls ++ lastL).length - 1, true) := by
  have e0 : (putsL ls ++ lastL).take ((putsL ls ++ lastL).length - 1) = putsL ls ++ [48, 13, 10, 13] := by
    rw [show lastL = [48, 13, 10, 13] ++ [10] from rfl, ← List.append_assoc]
    rw [List.take_append_of_le_length (by simp)]
    apply List.take_of_length_le
    simp
  have e : takeA ⟨0, 0, 0, 0⟩ (putsL ls ++ [48, 13, 10, 13]) = runA ⟨0, 0, 0, 0⟩ (putsL ls ++ [48, 13, 10, 13]) [] 0 := if_neg (by decide)
  rw [e0, e, runA_puts ls h, 
    runA_step (r' := ⟨0, 1, 0, 0⟩) (by decide) (by decide) rfl, runA_step (r' := ⟨2, 0, 0, 0⟩) (by decide) (by decide) rfl, runA_step (r' := ⟨6, 0, 0, 0⟩) (by decide) (by decide) rfl,
    runA_step (r' := ⟨9, 0, 0, 0⟩) (by decide) (by decide) rfl, runA]
  simp [lastL]

/-- a body's chunks are its bytes -/
def piecesL (l : List UInt8) (n : Nat) : List (List UInt8) := (cidx n l.length l.length 0).map fun x => (l.drop x.1.1).take x.1.2
theorem cidx_flat (l : List UInt8) (n : Nat) (hn : 1 ≤ n) : ∀ f i, l.length ≤ i + f → ((cidx n l.length f i).map fun x => (l.drop x.1.1).take x.1.2).flatten = l.drop i
  | 0, i, h => by simp [cidx]; omega
  | f + 1, i, h => by
    rw [cidx]
    split
    · rename_i hi
      rw [List.map_cons, List.flatten_cons, cidx_flat l n hn f (i + n) (by omega)]
      dsimp only
      by_cases h1 : n ≤ l.length - i
      · rw [Nat.min_eq_left h1, ← List.drop_drop, List.take_append_drop]
      · rw [Nat.min_eq_right (by omega), List.drop_eq_nil_of_le (by omega : l.length ≤ i + n), List.append_nil]
        apply List.take_of_length_le
        simp
    · simp; omega
theorem pieces_flat (l : List UInt8) (n : Nat) (hn : 1 ≤ n) : (piecesL l n).flatten = l := by
  have := cidx_flat l n hn l.length 0 (by omega)
  exact this.trans (by simp)
theorem pieces_len (l : List UInt8) (n : Nat) : ∀ x ∈ piecesL l n, x.length ≤ l.length := by
  intro x hx
  obtain ⟨y, _, rfl⟩ := List.mem_map.1 hx
  simp
  omega
theorem whole_pieces (l : List UInt8) (n : Nat) : wholeL l n = putsL (piecesL l n) ++ lastL := by
  unfold wholeL outOf putsL piecesL
  rw [List.map_map]
  rfl
end Go.Proofs.YteneioapchhehaaDoor

/- frame's reader, walked. -/
namespace Go.Proofs.YteneioapchhehaaDoor
open Go.RowKit

theorem Of_calls (w : World) (hG : Ge w) (m o : ByteArray) (st : Int) (A : Option Addr) (c : Nat) (fs : List (BL × BL)) (hf : FsOk fs) (hr : FsAt w A fs) (hc : fs.length ≤ c) (asked : BL) :
    Calls Tryd.prog 12 #[headV m o st A fs.length c, .string (bs asked)] w fun e w' => e = .returned (frV (frameOf st fs asked)) ∧ Below w.heap.size w w' := by
  by_cases h : noBody st asked
  · have := Of_none w m o st A fs.length c asked h
    rw [show frameOf st fs asked = (4, 0, 0) from if_pos h]
    exact this
  · cases q : decide ((100 : Int) ≤ st) with
    | false => exact Of_some w hG m o st A c fs hf hr hc asked h false q nofun
    | true => exact Of_some w hG m o st A c fs hf hr hc asked h true q fun _ => decide_eq_false fun h2 => h (.inr (.inl ⟨of_decide_eq_true q, h2⟩))

set_option maxHeartbeats 400000 in
set_option maxRecDepth 100000 in
theorem Clone_calls (w : World) (ao : Option Addr) (l : List UInt8) (c : Nat) (hl : l.length ≤ 1099511627776) (hc : l.length ≤ c) (hcn : ao = none → c = 0) (hb : Bs w ao l) :
    Calls Tryd.prog 43 #[.slice ao l.length c] w fun e w' => ∃ ao c, e = .returned (.slice ao l.length c) ∧ Bs w' ao l ∧ Below w.heap.size w w' := by
  have hq : ∀ W a n c, (binOp .eql 43 (.slice a n c) (.slice none 0 0)).run Tryd.prog W = .ok (.bool a.isNone) W := fun W a n c => Lib.run_eql_slice_nil W _ _ a n c 0 0 Tryd.underlying43
  rcases ao with _ | ad
  · have h0 : l = [] := hb.1 rfl
    subst h0
    have := hcn rfl
    subst this
    go_enter Tryd.func43, Tryd.ntmps43
    go_wp2_with fail
    go_ret
    exact ⟨none, ⟨0, rfl⟩, Bs.nil _, Below.refl _ _⟩
  · have HW := Lib.hid (Ow.lit0 w w.heap.size (Nat.le_refl _))
    have HBW := Lib.hid ((Below.refl w.heap.size w).alloc (Nat.le_refl _) (.cells #[] 5))
    have HBs2 : Hid (Bs (w.alloc (.cells #[] 5)) (some ad) l) := Lib.hid (hb.below HBW.out)
    have HS1 : Hid ((([] : List UInt8)).length + l.length ≤ 70368744177664) := Lib.hid (by simp; omega)
    clear hb hcn hl hc
    go_enter Tryd.func43, Tryd.ntmps43
    go_wp2_with (first
      | (at_builtin; refine wp_app rfl _ _ rfl w.heap.size (.slice (some ⟨w.heap.size, 0, none⟩) 0 0) _ rfl HW.out (some ad) _ _ rfl l rfl HBs2.out nofun HS1.out HBW.out.size ?_; intro v7 w7 hown hgr _; have HB7 := Lib.hid (Below.own HBW.out HW.out hgr (Nat.le_refl _)); rw [List.nil_append] at hown; obtain ⟨a8, c8, rfl, hs8, hc8, hge8, -⟩ := hown.bs'; have HS8 := Lib.hid hs8; clear hown hgr HW hs8 hc8 hge8))
    go_ret
    exact ⟨a8, c8, rfl, HS8.out, HB7.out⟩

/-- a body's reader -/
structure Fr where
  k : Int
  left : Int
  ended : Bool
  ch : Rd

def FrAt (w : World) (g gc : Nat) (r : Fr) : Prop :=
  gc < g ∧ w.heap[g]? = some (.cells #[.int .i64 r.k, .int .i64 r.left, .pointer (some ⟨gc, 0, none⟩), .bool r.ended] 76 (0, 0)) ∧ RdAt w gc r.ch
structure FrI (r : Fr) : Prop where
  k : 1 ≤ r.k ∧ r.k ≤ 4
  left : 0 ≤ r.left ∧ r.left ≤ 1099511627776
  ch : RdI r.ch

theorem FrAt.below {w w' : World} {g gc : Nat} {r : Fr} (h : FrAt w g gc r) (hb : Below w.heap.size w w') : FrAt w' g gc r :=
  ⟨h.1, (hb.block _ (lt_of_block h.2.1)).trans h.2.1, h.2.2.below hb⟩

def newOk (k n : Int) : Bool := decide (1 ≤ k) && decide (k ≤ 4) && decide (0 ≤ n) && decide (n ≤ 1099511627776) && (decide (k = 1) || decide (n = 0))
def frNew (k n : Int) : Fr := ⟨k, n, false, ⟨0, 0, 0, 0⟩⟩

def frTake (r : Fr) (l : List UInt8) : Fr × List UInt8 × Nat × Bool :=
  if r.ended = true ∨ r.k = 4 then (r, [], 0, true)
  else if r.k = 2 then ({ r with ch := (takeA r.ch l).1 }, (takeA r.ch l).2)
  else if r.k = 1 then ({ r with left := r.left - min (l.length : Int) r.left }, l.take r.left.toNat, min l.length r.left.toNat, true)
  else (r, l, l.length, true)
def frDone (r : Fr) : Bool := if r.k = 1 then r.left == 0 else if r.k = 2 then r.ch.st == 10 else if r.k = 3 then r.ended else true

set_option maxHeartbeats 2000000 in
theorem fDone_calls (w : World) (g gc : Nat) (r : Fr) (hi : FrI r) (h : FrAt w g gc r) : Calls Tryd.prog 17 #[.pointer (some ⟨g, 0, none⟩)] w fun e w' => e = .returned (.bool (frDone r)) ∧ w = w' := by
  have c0 := (blk_cell h.2.1 0).trans rfl
  have c1 := (blk_cell h.2.1 1).trans rfl
  have c2 := (blk_cell h.2.1 2).trans rfl
  have c3 := (blk_cell h.2.1 3).trans rfl
  have hk := hi.k
  have HR := Lib.hid h.2.2
  clear h hi
  obtain ⟨k, left, ended, ch⟩ := r
  dsimp only at *
  have h4 : k = 1 ∨ k = 2 ∨ k = 3 ∨ k = 4 := by omega
  clear hk
  rcases h4 with rfl | rfl | rfl | rfl
  · clear HR c2 c3
    go_enter Tryd.func17, Tryd.ntmps17
    go_wp2_with fail
    go_ret
    exact ⟨rfl, rfl⟩
  · clear c1 c3
    go_enter Tryd.func17, Tryd.ntmps17
    go_wp2_with fail
    refine (Done_calls _ _ _ HR.out).mono ?_
    rintro e w' ⟨rfl, rfl⟩
    go_wp2_with fail
    go_ret
    exact ⟨rfl, rfl⟩
  · clear HR c1 c2
    go_enter Tryd.func17, Tryd.ntmps17
    go_wp2_with fail
    go_ret
    exact ⟨rfl, rfl⟩
  · clear HR c1 c2 c3
    go_enter Tryd.func17, Tryd.ntmps17
    go_wp2_with fail
    go_ret
    exact ⟨rfl, rfl⟩

def endR (r : Fr) : Fr := { r with ended := true }
def endN (b : Bool) : Int := if b then 0 else 13
theorem FrI.end {r : Fr} (h : FrI r) : FrI (endR r) := ⟨h.k, h.left, h.ch⟩
theorem FrAt.end {w : World} {g gc : Nat} {r : Fr} (h : FrAt w g gc r) : FrAt (w.setCell ⟨g, 3, none⟩ (.bool true)) g gc (endR r) :=
  ⟨h.1, blk_set h.2.1 3 _, (Below.heap_setCell _ _ _ _ (Nat.ne_of_lt h.1)).trans h.2.2⟩

set_option maxHeartbeats 2000000 in
theorem fEnd_calls (w : World) (g gc : Nat) (r : Fr) (hi : FrI r) (h : FrAt w g gc r) : Calls Tryd.prog 20 #[.pointer (some ⟨g, 0, none⟩)] w fun e w' => e = .returned (.int .i64 (endN (frDone (endR r)))) ∧ FrAt w' g gc (endR r) ∧ Ch (fun k => k = g ∨ k = gc) w w' := by
  have c3 := (blk_cell h.2.1 3).trans rfl
  have f3 := blk_free h.2.1 3
  have H := Lib.hid h
  have HI := Lib.hid hi
  clear h hi
  go_enter Tryd.func20, Tryd.ntmps20
  go_wp2_with fail
  refine (fDone_calls _ g gc _ HI.out.end H.out.end).mono ?_
  rintro e w' ⟨rfl, rfl⟩
  have HC : Hid (Ch (fun k => k = g ∨ k = gc) w (w.setCell ⟨g, 3, none⟩ (.bool true))) := Lib.hid (Ch.set (Ch.refl _ w) (.inl (.inl rfl)) _)
  cases hd : frDone (endR r)
  · go_wp2_with fail
    go_ret
    exact ⟨by rw [hd]; rfl, H.out.end, HC.out⟩
  · go_wp2_with fail
    go_ret
    exact ⟨by rw [hd]; rfl, H.out.end, HC.out⟩

set_option maxHeartbeats 2000000 in
set_option maxRecDepth 100000 in
theorem fNew_no (w : World) (k n : Int) (h : newOk k n = false) : Calls Tryd.prog 15 #[.int .i64 k, .int .i64 n] w fun e w' => e = .returned (.tuple #[.pointer none, .int .i64 1]) ∧ w = w' := by
  by_cases h1 : k < 1
  · have t1 : decide (k < (1 : Int)) = true := decide_eq_true h1
    clear h h1
    go_enter Tryd.func15, Tryd.ntmps15
    go_wp2_with fail
    go_ret2
    exact ⟨rfl, rfl⟩
  have t1 : decide (k < (1 : Int)) = false := decide_eq_false h1
  by_cases h2 : 4 < k
  · have t2 : decide ((4 : Int) < k) = true := decide_eq_true h2
    clear h h1 h2
    go_enter Tryd.func15, Tryd.ntmps15
    go_wp2_with fail
    go_ret2
    exact ⟨rfl, rfl⟩
  have t2 : decide ((4 : Int) < k) = false := decide_eq_false h2
  by_cases h3 : n < 0
  · have t3 : decide (n < (0 : Int)) = true := decide_eq_true h3
    clear h h1 h2 h3
    go_enter Tryd.func15, Tryd.ntmps15
    go_wp2_with fail
    go_ret2
    exact ⟨rfl, rfl⟩
  have t3 : decide (n < (0 : Int)) = false := decide_eq_false h3
  by_cases h4 : 1099511627776 < n
  · have t4 : decide ((1099511627776 : Int) < n) = true := decide_eq_true h4
    clear h h1 h2 h3 h4
    go_enter Tryd.func15, Tryd.ntmps15
    go_wp2_with fail
    go_ret2
    exact ⟨rfl, rfl⟩
  have t4 : decide ((1099511627776 : Int) < n) = false := decide_eq_false h4
  have h5 : ¬ k = 1 ∧ ¬ n = 0 := by
    unfold newOk at h
    rw [decide_eq_true (show 1 ≤ k by omega), decide_eq_true (show k ≤ 4 by omega), decide_eq_true (show 0 ≤ n by omega), decide_eq_true (show n ≤ 1099511627776 by omega)] at h
    simpa using h
  have t5 : (k != 1) = true := bne_iff_ne.2 h5.1
  have t6 : (n != 0) = true := bne_iff_ne.2 h5.2
  clear h h1 h2 h3 h4 h5
  go_enter Tryd.func15, Tryd.ntmps15
  go_wp2_with fail
  go_ret2
  exact ⟨rfl, rfl⟩

theorem newOk_of {k n : Int} (h : newOk k n = true) : (1 ≤ k ∧ k ≤ 4) ∧ (0 ≤ n ∧ n ≤ 1099511627776) ∧ (k = 1 ∨ n = 0) := by
  unfold newOk at h
  simp only [Bool.and_eq_true, Bool.or_eq_true, decide_eq_true_eq] at h
  omega
theorem frNew_I {k n : Int} (h : newOk k n = true) : FrI (frNew k n) := ⟨(newOk_of h).1, (newOk_of h).2.1, RdI.zero⟩

def fNewP (w : World) (k n : Int) (e : Ending) (w' : World) : Prop :=
  ∃ g, e = .returned (.tuple #[.pointer (some ⟨g, 0, none⟩), .int .i64 0]) ∧ FrAt w' g w.heap.size (frNew k n) ∧ Below w.heap.size w w'

set_option maxHeartbeats 2000000 in
set_option maxRecDepth 100000 in
theorem fNew_ok (w : World) (k n : Int) (h : newOk k n = true) : Calls Tryd.prog 15 #[.int .i64 k, .int .i64 n] w (fNewP w k n) := by
  have hh := newOk_of h
  clear h
  unfold fNewP
  rcases hh with ⟨hk, hn, hkn⟩
  by_cases h1 : k = 1
  · subst h1
    have t3 : decide (n < (0 : Int)) = false := decide_eq_false (by omega)
    have t4 : decide ((1099511627776 : Int) < n) = false := decide_eq_false (by omega)
    clear hk hn hkn
    go_enter Tryd.func15, Tryd.ntmps15
    go_wp2_with fail
    refine (New_calls _).mono ?_
    rintro e w2 ⟨rfl, hr2, hb2⟩
    have HR2 := Lib.hid hr2
    have HB2 := Lib.hid hb2
    clear hr2 hb2
    go_wp2_with fail
    go_ret2
    exact ⟨_, rfl, ⟨lt_of_block HR2.out, heap_alloc_new w2 _, HR2.out.below ((Below.refl _ w2).alloc (Nat.le_refl _) _)⟩, HB2.out.alloc HB2.out.size _⟩
  · have h0 : n = 0 := by rcases hkn with h | h; exact absurd h h1; exact h
    subst h0
    have h4 : k = 2 ∨ k = 3 ∨ k = 4 := by omega
    clear hk hn hkn h1
    rcases h4 with rfl | rfl | rfl
    all_goals
      go_enter Tryd.func15, Tryd.ntmps15
      go_wp2_with fail
      refine (New_calls _).mono ?_
      rintro e w2 ⟨rfl, hr2, hb2⟩
      have HR2 := Lib.hid hr2
      have HB2 := Lib.hid hb2
      clear hr2 hb2
      go_wp2_with fail
      go_ret2
      exact ⟨_, rfl, ⟨lt_of_block HR2.out, heap_alloc_new w2 _, HR2.out.below ((Below.refl _ w2).alloc (Nat.le_refl _) _)⟩, HB2.out.alloc HB2.out.size _⟩
end Go.Proofs.YteneioapchhehaaDoor

/- frame's reader's Take, walked. -/
namespace Go.Proofs.YteneioapchhehaaDoor
open Go.RowKit

def fTkP (w : World) (g gc : Nat) (q : Fr × List UInt8 × Nat × Bool) (e : Ending) (w' : World) : Prop :=
  ∃ ao c, e = .returned (.tuple #[.slice ao q.2.1.length c, .int .i64 q.2.2.1, .int .i64 (errN q.2.2.2)]) ∧ Bs w' ao q.2.1 ∧ FrAt w' g gc q.1 ∧ Ch (fun k => k = g ∨ k = gc) w w'

set_option maxHeartbeats 2000000 in
set_option maxRecDepth 100000 in
theorem fTake_ended (w : World) (g gc : Nat) (r : Fr) (he : r.ended = true) (h : FrAt w g gc r) (v : Value) :
    Calls Tryd.prog 24 #[.pointer (some ⟨g, 0, none⟩), v] w (fTkP w g gc (r, [], 0, true)) := by
  have c3 := (blk_cell h.2.1 3).trans rfl
  rw [he] at c3
  have H := Lib.hid h
  clear h he
  unfold fTkP
  go_enter Tryd.func24, Tryd.ntmps24
  go_wp2_with fail
  go_ret3
  exact ⟨none, 0, rfl, Bs.nil _, H.out, Ch.refl _ _⟩

set_option maxHeartbeats 2000000 in
set_option maxRecDepth 100000 in
theorem fTake_4 (w : World) (g gc : Nat) (r : Fr) (he : r.ended = false) (hk : r.k = 4) (h : FrAt w g gc r) (v : Value) :
    Calls Tryd.prog 24 #[.pointer (some ⟨g, 0, none⟩), v] w (fTkP w g gc (r, [], 0, true)) := by
  have c3 := (blk_cell h.2.1 3).trans rfl
  have c0 := (blk_cell h.2.1 0).trans rfl
  rw [he] at c3
  rw [hk] at c0
  have H := Lib.hid h
  clear h he hk
  unfold fTkP
  go_enter Tryd.func24, Tryd.ntmps24
  go_wp2_with fail
  go_ret3
  exact ⟨none, 0, rfl, Bs.nil _, H.out, Ch.refl _ _⟩

set_option maxHeartbeats 2000000 in
set_option maxRecDepth 100000 in
theorem fTake_2 (w : World) (g gc : Nat) (r : Fr) (hi : FrI r) (he : r.ended = false) (hk : r.k = 2) (h : FrAt w g gc r) (hE : ErrVar 0 w) (hg : 0 < gc) (ao : Option Addr) (l : List UInt8) (hl : l.length ≤ 1099511627776) (c : Nat) (hc : l.length ≤ c) (hb : Bs w ao l) :
    Calls Tryd.prog 24 #[.pointer (some ⟨g, 0, none⟩), .slice ao l.length c] w (fTkP w g gc ({ r with ch := (takeA r.ch l).1 }, (takeA r.ch l).2)) := by
  have c3 := (blk_cell h.2.1 3).trans rfl
  have c0 := (blk_cell h.2.1 0).trans rfl
  have c2 := (blk_cell h.2.1 2).trans rfl
  rw [he] at c3
  rw [hk] at c0
  have H := Lib.hid h
  have HT := Lib.hid (Take_calls w gc r.ch hi.ch h.2.2 hE hg ao l hl c hc hb)
  clear h he hk hi hE hg hl hc hb
  unfold fTkP
  go_enter Tryd.func24, Tryd.ntmps24
  go_wp2_with fail
  refine HT.out.mono ?_
  rintro e w' ⟨ov, rfl, ho, hr, hch⟩
  obtain ⟨ao2, c2', rfl, hs, -⟩ := ho.bs'
  have HS := Lib.hid hs
  have HR := Lib.hid hr
  have HC := Lib.hid hch
  clear hs hr hch ho c0 c2 c3 HT
  go_wp2_with fail
  go_ret3
  exact ⟨_, _, rfl, HS.out, ⟨H.out.1, (HC.out.block _ (lt_of_block H.out.2.1) (Nat.ne_of_gt H.out.1)).trans H.out.2.1, HR.out⟩, HC.out.mono fun k hk => .inr hk⟩

set_option maxHeartbeats 2000000 in
set_option maxRecDepth 100000 in
theorem fTake_3 (w : World) (g gc : Nat) (r : Fr) (he : r.ended = false) (hk : r.k = 3) (h : FrAt w g gc r) (ao : Option Addr) (l : List UInt8) (hl : l.length ≤ 1099511627776) (c : Nat) (hc : l.length ≤ c) (hcn : ao = none → c = 0) (hb : Bs w ao l) :
    Calls Tryd.prog 24 #[.pointer (some ⟨g, 0, none⟩), .slice ao l.length c] w (fTkP w g gc (r, l, l.length, true)) := by
  have c3 := (blk_cell h.2.1 3).trans rfl
  have c0 := (blk_cell h.2.1 0).trans rfl
  rw [he] at c3
  rw [hk] at c0
  have H := Lib.hid h
  have HT := Lib.hid (Clone_calls w ao l c hl hc hcn hb)
  clear h he hk hl hc hb hcn
  unfold fTkP
  go_enter Tryd.func24, Tryd.ntmps24
  go_wp2_with fail
  refine HT.out.mono ?_
  rintro e w' ⟨ao2, c2', rfl, hs, hb2⟩
  have HS := Lib.hid hs
  have HB := Lib.hid hb2
  clear hs hb2 c0 c3 HT
  go_wp2_with fail
  go_ret3
  exact ⟨_, _, rfl, HS.out, H.out.below HB.out, Ch.of_below HB.out⟩

theorem min_nat (a b : Nat) : min (a : Int) (b : Int) = ((min a b : Nat) : Int) := by omega

theorem FrAt.left {w : World} {g gc : Nat} {r : Fr} (h : FrAt w g gc r) (x : Int) : FrAt (w.setCell ⟨g, 1, none⟩ (.int .i64 x)) g gc { r with left := x } :=
  ⟨h.1, blk_set h.2.1 1 _, (Below.heap_setCell _ _ _ _ (Nat.ne_of_lt h.1)).trans h.2.2⟩

set_option maxHeartbeats 2000000 in
set_option maxRecDepth 100000 in
theorem fTake_1 (w : World) (g gc : Nat) (r : Fr) (hi : FrI r) (he : r.ended = false) (hk : r.k = 1) (h : FrAt w g gc r) (ao : Option Addr) (l : List UInt8) (hl : l.length ≤ 1099511627776) (c : Nat) (hc : l.length ≤ c) (hcn : ao = none → c = 0) (hb : Bs w ao l) (hag : ∀ b off, ao = some ⟨b, off, none⟩ → 0 < l.length → ¬ b = g) :
    Calls Tryd.prog 24 #[.pointer (some ⟨g, 0, none⟩), .slice ao l.length c] w (fTkP w g gc ({ r with left := r.left - min (l.length : Int) r.left }, l.take r.left.toNat, min l.length r.left.toNat, true)) := by
  have c3 := (blk_cell h.2.1 3).trans rfl
  have c0 := (blk_cell h.2.1 0).trans rfl
  have c1 := (blk_cell h.2.1 1).trans rfl
  have f1 := blk_free h.2.1 1
  rw [he] at c3
  rw [hk] at c0
  obtain ⟨N, hN⟩ : ∃ N : Nat, r.left = N := ⟨r.left.toNat, by have := hi.left; omega⟩
  have hNl : N ≤ 1099511627776 := by have := hi.left; omega
  rw [hN] at c1 ⊢
  rw [min_nat, Int.toNat_natCast]
  obtain ⟨p, hp⟩ : ∃ p, l.take N = p := ⟨_, rfl⟩
  obtain ⟨M, hM⟩ : ∃ M, min l.length N = M := ⟨_, rfl⟩
  have hpl : p.length = M := by rw [← hp, List.length_take, ← hM]; omega
  have hmin : min (l.length : Int) (N : Int) = (M : Int) := by rw [min_nat, hM]
  have hsub : wrap64 ((N : Int) - (M : Int)) = (N : Int) - (M : Int) := IntWalk.wrap64_in _ (by omega)
  have hMl : M ≤ l.length := by omega
  have hsl := fun W => run_sliceTo W ao l.length c M (by omega)
  have H := Lib.hid h
  have HB2 : Hid (Bs (w.setCell ⟨g, 1, none⟩ (.int .i64 ((N : Int) - (M : Int)))) ao p) := Lib.hid (by
    rw [← hp]
    exact (Bs.ch hb (Ch.set (S := (· = g)) (Ch.refl _ w) (.inl rfl) _) hag).take N)
  have HT := Lib.hid (fun W (hW : Bs W ao p) => Clone_calls W ao p c (by omega) (by omega) hcn hW)
  rw [hp, hM]
  rw [hpl] at HT
  clear h he hk hl hc hb hcn hi hag hp
  unfold fTkP
  go_enter Tryd.func24, Tryd.ntmps24
  go_wp2_with fail
  refine (HT.out _ HB2.out).mono ?_
  rintro e w' ⟨ao2, c2', rfl, hs, hb2⟩
  have HS := Lib.hid hs
  have HB := Lib.hid hb2
  clear hs hb2 c0 c3 c1 f1 HT
  go_wp2_with fail
  go_ret3
  exact ⟨_, _, by rw [hpl]; rfl, HS.out, (H.out.left _).below HB.out, (Ch.set (S := fun k => k = g ∨ k = gc) (Ch.refl _ w) (.inl (.inl rfl)) _).below HB.out⟩

theorem fTake_calls (w : World) (g gc : Nat) (r : Fr) (hi : FrI r) (h : FrAt w g gc r) (hE : ErrVar 0 w) (hg : 0 < gc) (ao : Option Addr) (l : List UInt8) (hl : l.length ≤ 1099511627776) (c : Nat) (hc : l.length ≤ c) (hcn : ao = none → c = 0) (hb : Bs w ao l) (hag : ∀ b off, ao = some ⟨b, off, none⟩ → 0 < l.length → ¬ b = g) :
    Calls Tryd.prog 24 #[.pointer (some ⟨g, 0, none⟩), .slice ao l.length c] w (fTkP w g gc (frTake r l)) := by
  unfold frTake
  cases he : r.ended with
  | true => rw [if_pos (.inl rfl)]; exact fTake_ended w g gc r he h _
  | false =>
    by_cases h4 : r.k = 4
    · rw [if_pos (.inr h4)]; exact fTake_4 w g gc r he h4 h _
    · rw [if_neg (by simp [h4])]
      by_cases h2 : r.k = 2
      · rw [if_pos h2]; have := fTake_2 w g gc r hi he h2 h hE hg ao l hl c hc hb; rw [he] at this; exact this
      · rw [if_neg h2]
        by_cases h1 : r.k = 1
        · rw [if_pos h1]; have := fTake_1 w g gc r hi he h1 h ao l hl c hc hcn hb hag; rw [he] at this; exact this
        · rw [if_neg h1]
          exact fTake_3 w g gc r he (by have := hi.k; omega) h ao l hl c hc hcn hb

theorem frTake_I {r : Fr} (h : FrI r) (l : List UInt8) : FrI (frTake r l).1 := by
  unfold frTake
  split
  · exact h
  · split
    · exact ⟨h.k, h.left, takeA_i h.ch l⟩
    · split
      · exact ⟨h.k, by have := h.left; dsimp only; omega, h.ch⟩
      · exact h
end Go.Proofs.YteneioapchhehaaDoor

/- the laws' own small functions: fields, awake. -/
namespace Go.Proofs.YteneioapchhehaaDoor
open Go.RowKit

set_option maxRecDepth 100000 in
theorem fields_calls (w : World) (a b : BL) : Calls Tryd.prog 26 #[.string (bs a), .string (bs b)] w fun e w' =>
    ∃ g, e = .returned (.slice (some ⟨g, 0, none⟩) 1 1) ∧ FsAt w' (some ⟨g, 0, none⟩) [(a, b)] ∧ Below w.heap.size w w' := by
  obtain ⟨s, hs⟩ : ∃ s, bs a = s := ⟨_, rfl⟩
  obtain ⟨t, ht⟩ : ∃ s, bs b = s := ⟨_, rfl⟩
  have hh : ∀ fr : Nat × Nat, FsAt (w.alloc (.cells #[.string s, .string t] 59 fr)) (some ⟨w.heap.size, 0, none⟩) [(a, b)] := fun fr => by
    subst hs; subst ht; exact FsAt.one (heap_alloc_new w _)
  have HH := Lib.hid hh
  rw [hs, ht]
  clear hh hs ht
  go_enter Tryd.func26, Tryd.ntmps26
  go_wp2_with fail
  go_ret
  exact ⟨_, rfl, HH.out _, (Below.refl _ w).alloc (Nat.le_refl _) _⟩

def kCl : BL := [99, 111, 110, 116, 101, 110, 116, 45, 108, 101, 110, 103, 116, 104]
def v505 : BL := [53, 44, 32, 48, 53]
def v56 : BL := [53, 44, 32, 54]
def vCh : BL := [67, 104, 117, 110, 107, 101, 100]
def GETs : BL := [71, 69, 84]
theorem aw1 : frameOf 200 [(kCl, v505)] GETs = (1, 5, 0) := by decide +kernel
theorem aw2 : frameOf 200 [(TEs, vCh)] GETs = (2, 0, 0) := by decide +kernel
theorem aw3 : frameOf 200 [(CLs, v56)] GETs = (0, 0, 2) := by decide +kernel
theorem aw4 : frameOf 304 [] GETs = (4, 0, 0) := by decide +kernel
theorem aw5 : frameOf 200 [] GETs = (3, 0, 0) := by decide +kernel
theorem FsOk.nil : FsOk [] := ⟨by decide, nofun⟩
theorem FsOk.small {a b : BL} (ha : a.length ≤ 100) (hb : b.length ≤ 100) : FsOk [(a, b)] := ⟨by simp, by rintro x hx; simp at hx; subst hx; exact ⟨Nat.le_trans ha (by decide), Nat.le_trans hb (by decide)⟩⟩
theorem FsAt.nil (w : World) : FsAt w none [] := ⟨rfl, by simp, fun h => absurd h (by simp)⟩

/-- the variables that chapter 13 reads -/
structure Gw (w : World) : Prop where
  gv : Gv w
  ge : Ge w
theorem Gw.below {w w' : World} (h : Gw w) (hb : Below w.heap.size w w') : Gw w' := ⟨h.gv.below hb, h.ge.below hb⟩

def abL : List UInt8 := [97, 98]
def cdefL : List UInt8 := [99, 100, 101, 102]
theorem aw6 : frTake (frNew 1 3) abL = (⟨1, 1, false, ⟨0, 0, 0, 0⟩⟩, [97, 98], 2, true) := by rfl
theorem aw7 : frTake ⟨1, 1, false, ⟨0, 0, 0, 0⟩⟩ cdefL = (⟨1, 0, false, ⟨0, 0, 0, 0⟩⟩, [99], 1, true) := by rfl
theorem fI1 (n : Int) (h : 0 ≤ n ∧ n ≤ 1099511627776) : FrI ⟨1, n, false, ⟨0, 0, 0, 0⟩⟩ := ⟨⟨by simp, by simp⟩, h, RdI.zero⟩

/-- Take of a constant -/
theorem fTake_const (w : World) (g gc : Nat) (r : Fr) (hi : FrI r) (h : FrAt w g gc r) (hE : ErrVar 0 w) (hg : 0 < gc) (L : List UInt8) (hl : L.length ≤ 1000) (fr : Nat × Nat) :
    Calls Tryd.prog 24 #[.pointer (some ⟨g, 0, none⟩), .slice (some ⟨w.heap.size, 0, none⟩) L.length L.length] (w.alloc (.cells (L.map bv).toArray 5 fr)) (fTkP w g gc (frTake r L)) := by
  have hb := (Below.refl w.heap.size w).alloc (Nat.le_refl _) (.cells (L.map bv).toArray 5 fr)
  refine (fTake_calls (w.alloc (.cells (L.map bv).toArray 5 fr)) g gc r hi (h.below hb) (GV_below hE hb) hg (some ⟨w.heap.size, 0, none⟩) L (by omega) L.length (Nat.le_refl _) nofun (Bs.of_block (heap_alloc_new w _)) ?_).mono ?_
  · rintro b off h1 - rfl
    injection h1 with h1
    injection h1 with h1
    have := lt_of_block h.2.1
    omega
  · rintro e w' ⟨ao, c, h1, h2, h3, h4⟩
    exact ⟨ao, c, h1, h2, h3, (Ch.of_below hb).trans h4⟩

theorem fch_below {a w w' : World} {g gc : Nat} (h : Below a.heap.size a w) (hc : Ch (fun k => k = g ∨ k = gc) w w') (h1 : a.heap.size ≤ gc) (h2 : gc < g) : Below a.heap.size a w' :=
  Below.ch h hc (fun k hk => by rcases hk with rfl | rfl <;> omega) h.size

theorem rd_ne {w : World} {b off : Nat} {l : List UInt8} (h : Bs w (some ⟨b, off, none⟩) l) (hl : 0 < l.length) {g : Nat} {r : Rd} (hr : RdAt w g r) (e : b = g) : False := by
  subst e
  have h1 := h.cell 0 hl
  rw [Nat.add_zero] at h1
  rw [blk_cell hr] at h1
  match off, h1 with
  | 0, h1 => cases h1
  | 1, h1 => cases h1
  | 2, h1 => cases h1
  | 3, h1 => cases h1
  | n + 4, h1 => cases h1
theorem fr_ne {w : World} {b off : Nat} {l : List UInt8} (h : Bs w (some ⟨b, off, none⟩) l) (hl : 0 < l.length) {g gc : Nat} {r : Fr} (hr : FrAt w g gc r) (e : b = g) : False := by
  subst e
  have h1 := h.cell 0 hl
  rw [Nat.add_zero] at h1
  rw [blk_cell hr.2.1] at h1
  match off, h1 with
  | 0, h1 => cases h1
  | 1, h1 => cases h1
  | 2, h1 => cases h1
  | 3, h1 => cases h1
  | n + 4, h1 => cases h1

set_option maxHeartbeats 8000000 in
set_option maxRecDepth 100000 in
theorem awake_calls (w : World) (hG : Gw w) : Calls Tryd.prog 10 #[] w fun e w' => e = .returned (.bool true) ∧ Below w.heap.size w w' := by
  have kc := fun (w : World) (C : Array Value) (n c : Nat) => Lib.run_convert_bytes_const (P := Tryd.prog) w 43 5 C n c Tryd.underlying43 Tryd.underlying5
  have HG := Lib.hid hG
  have HX := Lib.hid hG.gv.lt
  clear hG
  go_enter Tryd.func10, Tryd.ntmps10
  go_wp2_with fail
  refine (fields_calls _ kCl v505).mono ?_
  rintro e w1 ⟨g1, rfl, hr1, hb1⟩
  have HR1 := Lib.hid hr1
  have HB1 := Lib.hid hb1
  clear hr1 hb1
  go_wp2_with fail
  refine (Of_calls w1 (HG.out.ge.below HB1.out) ⟨#[]⟩ ⟨#[]⟩ 200 (some ⟨g1, 0, none⟩) 1 _ (FsOk.small (by decide) (by decide)) HR1.out (by decide) GETs).mono ?_
  rw [aw1]
  rintro e w2 ⟨rfl, hb2⟩
  have HB2 : Hid (Below w.heap.size w w2) := Lib.hid (HB1.out.trans (hb2.mono HB1.out.size))
  clear hb2 HR1 HB1
  simp only [frV]
  go_wp2_with fail
  refine (fields_calls w2 TEs vCh).mono ?_
  rintro e w3 ⟨g1, rfl, hr1, hb1⟩
  have HR1 := Lib.hid hr1
  have HB3 : Hid (Below w.heap.size w w3) := Lib.hid (HB2.out.trans (hb1.mono HB2.out.size))
  clear hr1 hb1
  go_wp2_with fail
  refine (Of_calls w3 (HG.out.ge.below HB3.out) ⟨#[]⟩ ⟨#[]⟩ 200 (some ⟨g1, 0, none⟩) 1 _ (FsOk.small (by decide) (by decide)) HR1.out (by decide) GETs).mono ?_
  rw [aw2]
  rintro e w4 ⟨rfl, hb2⟩
  have HB4 : Hid (Below w.heap.size w w4) := Lib.hid (HB3.out.trans (hb2.mono HB3.out.size))
  clear hb2 HR1 HB2 HB3
  simp only [frV]
  go_wp2_with fail
  refine (fields_calls w4 CLs v56).mono ?_
  rintro e w5 ⟨g1, rfl, hr1, hb1⟩
  have HR1 := Lib.hid hr1
  have HB5 : Hid (Below w.heap.size w w5) := Lib.hid (HB4.out.trans (hb1.mono HB4.out.size))
  clear hr1 hb1
  go_wp2_with fail
  refine (Of_calls w5 (HG.out.ge.below HB5.out) ⟨#[]⟩ ⟨#[]⟩ 200 (some ⟨g1, 0, none⟩) 1 _ (FsOk.small (by decide) (by decide)) HR1.out (by decide) GETs).mono ?_
  rw [aw3]
  rintro e w6 ⟨rfl, hb2⟩
  have HB6 : Hid (Below w.heap.size w w6) := Lib.hid (HB5.out.trans (hb2.mono HB5.out.size))
  clear hb2 HR1 HB4 HB5
  simp only [frV]
  go_wp2_with fail
  refine (Of_calls w6 (HG.out.ge.below HB6.out) ⟨#[]⟩ ⟨#[]⟩ 304 none 0 [] FsOk.nil (FsAt.nil _) (by decide) GETs).mono ?_
  rw [aw4]
  rintro e w7 ⟨rfl, hb2⟩
  have HB7 : Hid (Below w.heap.size w w7) := Lib.hid (HB6.out.trans (hb2.mono HB6.out.size))
  clear hb2 HB6
  simp only [frV]
  go_wp2_with fail
  refine (Of_calls w7 (HG.out.ge.below HB7.out) ⟨#[]⟩ ⟨#[]⟩ 200 none 0 [] FsOk.nil (FsAt.nil _) (by decide) GETs).mono ?_
  rw [aw5]
  rintro e w8 ⟨rfl, hb2⟩
  have HB8 : Hid (Below w.heap.size w w8) := Lib.hid (HB7.out.trans (hb2.mono HB7.out.size))
  clear hb2 HB7
  simp only [frV]
  go_wp2_with fail
  refine (fNew_ok w8 1 3 (by decide)).mono ?_
  rintro e w9 ⟨g, rfl, hr9, hb9⟩
  have HR9 := Lib.hid hr9
  have HN := Lib.hid HB8.out.size
  have HGC : Hid (0 < w8.heap.size) := Lib.hid (Nat.lt_of_lt_of_le HX.out.2 HN.out)
  have HB9 : Hid (Below w.heap.size w w9) := Lib.hid (HB8.out.trans (hb9.mono HB8.out.size))
  obtain ⟨gc, hgc⟩ : ∃ gc, w8.heap.size = gc := ⟨_, rfl⟩
  rw [hgc] at HR9 HN HGC
  clear hr9 hb9 HB8 hgc
  go_wp2_with fail
  refine (fNew_no w9 3 3 (by decide)).mono ?_
  rintro e w' ⟨rfl, rfl⟩
  go_wp2_with fail
  refine (fTake_const w9 g gc (frNew 1 3) (fI1 3 (by decide)) HR9.out (HG.out.below HB9.out).gv.es HGC.out abL (by decide) _).mono ?_
  rw [aw6]
  rintro e w10 ⟨a10, c10, rfl, hs10, hr10, hc10⟩
  have HS10 := Lib.hid hs10
  have HR10 := Lib.hid hr10
  have HZ10 := Lib.hid HR9.out.1
  have HB10 := Lib.hid (fch_below HB9.out hc10 HN.out HZ10.out)
  clear hs10 hr10 hc10 HB9 HR9
  go_wp2_with fail
  refine (fDone_calls w10 g gc _ (fI1 1 (by decide)) HR10.out).mono ?_
  rintro e w' ⟨rfl, rfl⟩
  go_wp2_with fail
  refine (fTake_const w10 g gc _ (fI1 1 (by decide)) HR10.out (HG.out.below HB10.out).gv.es HGC.out cdefL (by decide) _).mono ?_
  rw [aw7]
  rintro e w11 ⟨a11, c11, rfl, hs11, hr11, hc11⟩
  have HR11 := Lib.hid hr11
  have HB11 := Lib.hid (fch_below HB10.out hc11 HN.out HZ10.out)
  have hs10 : Bs w11 a10 [97, 98] := HS10.out.ch hc11 (fun b off h1 h2 hk => by
    rcases hk with rfl | rfl
    · exact fr_ne (h1 ▸ HS10.out) h2 HR10.out rfl
    · exact rd_ne (h1 ▸ HS10.out) h2 HR10.out.2.2 rfl)
  have rs2 := run_str (n := 2) hs10 rfl c10
  have rs1 := run_str (n := 1) hs11 rfl c11
  have et : errN true = 0 := rfl
  have d1 : frDone ⟨1, 1, false, ⟨0, 0, 0, 0⟩⟩ = false := rfl
  clear hs11 hr11 hc11 HS10 HR10 HB10 hs10 kc
  rw [d1]
  go_wp2_with (first
    | (go_at_call 17; with_reducible refine (fDone_calls w11 g gc _ (fI1 0 (by decide)) HR11.out).mono ?_; rintro e w' ⟨rfl, rfl⟩)
    | (go_at_call 20; with_reducible refine (fEnd_calls w11 g gc _ (fI1 0 (by decide)) HR11.out).mono ?_; rintro e w12 ⟨rfl, hr12, hc12⟩; have HB12 := Lib.hid (fch_below HB11.out hc12 HN.out HZ10.out); clear hr12 hc12))
  go_ret
  exact ⟨rfl, HB12.out⟩

end Go.Proofs.YteneioapchhehaaDoor

/- []api.Field: appended to a literal. -/
namespace Go.Proofs.YteneioapchhehaaDoor
open Go.RowKit Go.Proofs.YteneioapchhehaaDoor.PFr Go.Proofs.YteneioapchhehaaDoorW.PrintWords

theorem info_fld : (Tryd.prog.info? 59).map (fun i => (i.zero.map (·.cells.size), i.size, i.bytes)) = some (some 2, 2, 32) := by kernel_rfl
def cellsF (fs : List (BL × BL)) : List Value := fs.flatMap fun x => [.string (bs x.1), .string (bs x.2)]
theorem cellsF_len (fs : List (BL × BL)) : (cellsF fs).length = fs.length * 2 := by
  induction fs with
  | nil => rfl
  | cons x l ih =>
    have h2 : cellsF (x :: l) = [Value.string (bs x.1), Value.string (bs x.2)] ++ cellsF l := rfl
    rw [h2, List.length_append, ih]
    simp only [List.length_cons, List.length_nil]
    omega
theorem cellsF_get (fs : List (BL × BL)) (j i : Nat) (hi : i < 2) (x : BL × BL) (hx : fs[j]? = some x) : (cellsF fs)[j * 2 + i]? = [Value.string (bs x.1), Value.string (bs x.2)][i]? := by
  induction fs generalizing j with
  | nil => simp at hx
  | cons y l ih =>
    rw [cellsF, List.flatMap_cons]
    cases j with
    | zero => cases hx; rw [List.getElem?_append_left (by simp; omega)]; simp
    | succ j =>
      rw [List.getElem?_append_right (by simp; omega)]
      have := ih j (by simpa using hx)
      rw [← this]
      congr 1
      simp
      omega
theorem cellsF_one (fs : List (BL × BL)) : ∀ u ∈ cellsF fs, u.oneCell' = true := by
  intro u hu
  simp only [cellsF, List.mem_flatMap] at hu
  obtain ⟨x, _, hx⟩ := hu
  simp at hx
  rcases hx with rfl | rfl <;> rfl

theorem FsAt.news {w : World} {ad : Addr} {fs : List (BL × BL)} (h : FsAt w (some ad) fs) : ∀ j u, (cellsF fs)[j]? = some u → w.cell? (ad.add j) = some u := by
  intro j u hu
  have hj : j < fs.length * 2 := by rw [← cellsF_len]; exact (List.getElem?_eq_some_iff.1 hu).1
  obtain ⟨x, hx⟩ : ∃ x, fs[j / 2]? = some x := ⟨_, List.getElem?_eq_getElem (by omega)⟩
  have e1 : j = j / 2 * 2 + j % 2 := by omega
  rw [e1, cellsF_get fs (j / 2) (j % 2) (by omega) x hx] at hu
  have hn : 0 < fs.length := by omega
  obtain ⟨ad', e, hc⟩ := h.2.2 hn
  cases e
  obtain ⟨c, hs, hr, hcell⟩ := hc (j / 2) (fS x) (by rw [List.getElem?_map, hx]; rfl)
  have hc2 := k59_open hr
  subst hc2
  have := hcell (j % 2) u hu
  rw [show (k59).sz = 2 from rfl, ← e1] at this
  exact this

theorem FsAt.of_row {w : World} {B g : Nat} {v : Value} {fs : List (BL × BL)} (hl : fs.length ≤ 9223372036854775807) (h : RowO w B 59 2 v fs.length (cellsF fs)) (hg : v.ownBlock = some g) : FsAt w (some ⟨g, 0, none⟩) fs := by
  refine ⟨by simp, hl, fun _ => ⟨_, rfl, fun j p hj => ?_⟩⟩
  rw [List.getElem?_map, Option.map_eq_some_iff] at hj
  obtain ⟨x, hx, rfl⟩ := hj
  refine ⟨_, rfl, k59_mk w (fS x), fun i u hu => h.cells hg _ _ ?_⟩
  have hi : i < 2 := (List.getElem?_eq_some_iff.1 hu).1
  rw [show (k59).sz = 2 from rfl, cellsF_get fs j i hi x hx]
  exact hu

theorem run_appF (w : World) (ty : TypeId) (A : Option Addr) (fs : List (BL × BL)) (c : Nat) (h : FsAt w A fs) (hcn : A = none → c = 0) (hl : fs.length ≤ 1000000) :
    ∃ A' c' w', (Builtin.append_ #[22, 22] ty #[.slice (some ⟨w.heap.size, 0, none⟩) 0 0, .slice A fs.length c]).run Tryd.prog (w.alloc (.cells #[] 59)) = .ok (.slice A' fs.length c') w' ∧ FsAt w' A' fs ∧ fs.length ≤ c' ∧ Below w.heap.size w w' := by
  have hb := (Below.refl w.heap.size w).alloc (Nat.le_refl _) (.cells #[] 59)
  have h0 : RowO (w.alloc (.cells #[] 59)) w.heap.size 59 2 (.slice (some ⟨w.heap.size, 0, none⟩) 0 0) 0 [] :=
    ⟨rfl, .inr ⟨w.heap.size, 0, #[], (0, 0), rfl, Nat.le_refl _, heap_alloc_new w _, fun j _ h => by omega, Nat.le_refl _, Nat.zero_le _, rfl, rfl⟩⟩
  have hi := info_fld
  rw [Option.map_eq_some_iff] at hi
  obtain ⟨i, hi, hh⟩ := hi
  injection hh with hz hh
  injection hh with hs hbt
  rw [Option.map_eq_some_iff] at hz
  obtain ⟨z, hz, hzs⟩ := hz
  rcases A with _ | ad
  · have hf : fs = [] := by
      cases fs with
      | nil => rfl
      | cons x l => obtain ⟨ad, e, -⟩ := h.2.2 (by simp); cases e
    subst hf
    have := hcn rfl
    subst this
    refine ⟨_, _, _, run_appendO_none _ w.heap.size 22 ty 59 i 2 Tryd.underlying22 hi _ 0 [] h0, ⟨rfl, by simp, fun h => absurd h (by simp)⟩, Nat.le_refl _, hb⟩
  · obtain ⟨v', w', h1, h2, h3, h4, h5⟩ := run_appendO (P := Tryd.prog) (w.alloc (.cells #[] 59)) w.heap.size 22 ty 59 i z 2 32 Tryd.underlying22 hi hz hs hbt hzs (by omega) _ 0 [] h0 ad fs.length c (cellsF fs) (cellsF_len fs) (fun j u hu => (h.below hb).news j u hu) (cellsF_one fs)
      (by unfold maxLen; omega) (by omega) (by simp)
    rw [List.nil_append, Nat.zero_add] at h2
    have hbl : Below w.heap.size w w' := hb.grown h3 (by simp) (fun k hk => by cases hk; exact Nat.le_refl _)
    have hv : ∃ g cap, v' = .slice (some ⟨g, 0, none⟩) fs.length cap ∧ fs.length ≤ cap := by
      rcases h2.2 with ⟨e, _⟩ | ⟨g, cap, cur, fz, e, _, _, _, e2, _⟩
      · exact absurd (h4.1 e).1 (by simp)
      · exact ⟨g, cap, e, e2⟩
    obtain ⟨g, cap, rfl, hcap⟩ := hv
    exact ⟨_, _, _, h1, FsAt.of_row (by omega) h2 rfl, hcap, hbl⟩

/-- the same as an operation of a walk -/
theorem wp_appF {w : World} {ops : Array Oper} {rest : List Oper} {o : Oper} {a : Act} {Q : Exit → Act → World → Prop} (hgd : o.guard = none) (s x : Operand)
    (ho : o.op = .call { callee := .builtin .append, args := #[s, x], argTypes := #[22, 22] })
    (hs : a.eval s = .slice (some ⟨w.heap.size, 0, none⟩) 0 0) (A : Option Addr) (m c : Nat) (hx : a.eval x = .slice A m c) (fs : List (BL × BL)) (hm : fs.length = m) (h : FsAt w A fs) (hcn : A = none → c = 0) (hl : fs.length ≤ 1000000)
    (hk : ∀ A' c' w', FsAt w' A' fs → m ≤ c' → Below w.heap.size w w' → wpList Tryd.prog ops Q rest (a.put o.dst (.slice A' m c')) w') : wpList Tryd.prog ops Q (o :: rest) a (w.alloc (.cells #[] 59)) := by
  subst hm
  refine wpList_plain hgd fun K hK => ?_
  obtain ⟨A', c', w', hr, h2, h3, h4⟩ := run_appF w o.type A fs c h hcn hl
  unfold Oper.wp execOp
  simp only [ho, resolve, invoke, builtin, Sem.run_bind, Sem.run_pure, Result.andThen_ok, List.map_toArray, List.map_cons, List.map_nil, hs, hx, hr]
  exact hK _ _ (hk A' c' w' h2 h3 h4)
end Go.Proofs.YteneioapchhehaaDoor

/- Great of fields, plain; and as the laws call it. -/
namespace Go.Proofs.YteneioapchhehaaDoor
open Go.RowKit Go.Proofs.YteneioapchhehaaDoor.PFr Go.Proofs.YteneioapchhehaaDoorW.PrintWords

def sumF (l : List (BL × BL)) : Nat := (l.map fun x => x.1.length + x.2.length).sum
theorem sumF_mem {l : List (BL × BL)} {x : BL × BL} (h : x ∈ l) : x.1.length + x.2.length ≤ sumF l := by
  induction l with
  | nil => cases h
  | cons y l ih =>
    simp only [sumF, List.map_cons, List.sum_cons]
    rcases List.mem_cons.1 h with rfl | h
    · omega
    · have := ih h; unfold sumF at this; omega

theorem p_Great7L (fs : List (BL × BL)) (hs : ∀ x ∈ fs, x.1.length ≤ 140737488355328 ∧ x.2.length ≤ 140737488355328) (hl : fs.length ≤ 4398046511104) : ∀ (l : List (BL × BL)) (n : Int) (i k : Nat), fs.drop i = l → i ≤ fs.length →
    (fs.length ≤ 130 → 0 ≤ n ∧ n ≤ i * 281474976710656) → l.length + 1 ≤ k →
    ∃ b, mandolineref07_Great.l0 k (fs.map fS) n (fs.map fS) ((fs.map fS).length : Int) (i : Int) = some b ∧ (b = false → fs.length ≤ 130 ∧ n + sumF l ≤ 12000)
  | [], n, i, k, hd, hi, hn, hk => by
    obtain ⟨k, rfl⟩ : ∃ m, k = m + 1 := ⟨k - 1, by simp at hk; omega⟩
    have := List.drop_eq_nil_iff.1 hd
    rw [mandolineref07_Great.l0, if_neg (by rw [List.length_map]; omega), List.length_map]
    by_cases h : ((fs.length : Nat) : Int) > 130
    · rw [if_pos h]; exact ⟨true, rfl, nofun⟩
    · rw [if_neg h]
      refine ⟨_, rfl, fun hb => ⟨by omega, ?_⟩⟩
      have := of_decide_eq_false hb
      simp [sumF]
      omega
  | x :: l, n, i, k, hd, hi, hn, hk => by
    obtain ⟨k, rfl⟩ : ∃ m, k = m + 1 := ⟨k - 1, by simp at hk; omega⟩
    have hlt : i < fs.length := by
      by_cases h : i < fs.length
      · exact h
      · rw [List.drop_eq_nil_of_le (by omega)] at hd; cases hd
    have hdd := List.drop_eq_getElem_cons hlt
    rw [hd] at hdd
    injection hdd with hcc hll
    have hx : fs[i]? = some x := by rw [List.getElem?_eq_getElem hlt, hcc]
    have hb := hs x (by rw [hcc]; exact List.getElem_mem hlt)
    simp only [List.length_cons] at hk
    rw [mandolineref07_Great.l0, if_pos (by rw [List.length_map]; omega), if_pos (by omega), if_pos (by rw [List.length_map]; omega), rd_fS hx, w1 i (by omega)]
    have e1 : (fS x).f0.size = x.1.length := bs_size _
    have e2 : (fS x).f1.size = x.2.length := bs_size _
    rw [e1, e2]
    obtain ⟨b, h1, h2⟩ := p_Great7L fs hs hl l (wrap64 (wrap64 (n + (x.1.length : Int)) + (x.2.length : Int))) (i + 1) k hll.symm (by omega) (fun h => by
      have := hn h
      rw [IntWalk.wrap64_in (n + (x.1.length : Int)) (by omega), IntWalk.wrap64_in _ (by omega)]
      omega) (by omega)
    refine ⟨b, h1, fun hb0 => ?_⟩
    obtain ⟨h3, h4⟩ := h2 hb0
    have := hn h3
    rw [IntWalk.wrap64_in (n + (x.1.length : Int)) (by omega), IntWalk.wrap64_in _ (by omega)] at h4
    refine ⟨h3, ?_⟩
    simp only [sumF, List.map_cons, List.sum_cons] at h4 ⊢
    omega

theorem Great7_calls (w : World) (A : Option Addr) (c : Nat) (fs : List (BL × BL)) (hs : ∀ x ∈ fs, x.1.length ≤ 140737488355328 ∧ x.2.length ≤ 140737488355328) (hl : fs.length ≤ 4398046511104) (hr : FsAt w A fs) (hc : fs.length ≤ c) :
    ∃ b, (b = false → FsOk fs ∧ fs.length ≤ 130) ∧ ∀ W, Below w.heap.size w W → Calls Tryd.prog 11 #[.slice A fs.length c] W fun e w' => e = .returned (.bool b) ∧ Below W.heap.size W w' := by
  obtain ⟨b, h1, h2⟩ := p_Great7L fs hs hl fs 0 0 (fs.length + 1) rfl (by omega) (fun _ => by omega) (by omega)
  refine ⟨b, fun hb => ?_, fun W hW => ?_⟩
  · obtain ⟨h3, h4⟩ := h2 hb
    exact ⟨⟨by omega, fun x hx => by have := sumF_mem hx; omega⟩, h3⟩
  · have h := mandolineref07_Great.calls (fs.length + 1) A c (fs.map fS) b W (by rw [List.length_map]; exact hr.below hW) (by rw [List.length_map]; exact hc) h1
    rw [List.length_map] at h
    exact h

theorem rOf_calls (w : World) (st : Int) (A : Option Addr) (c : Nat) (fs : List (BL × BL)) (hf : FsOk fs) (hr : FsAt w A fs) (hc : fs.length ≤ c) (asked : BL) :
    Calls Tryd.prog 13 #[.int .i64 st, .slice A fs.length c, .string (bs asked)] w fun e w' => e = .returned (frV (frameOf st fs asked)) ∧ Below w.heap.size w w' := by
  have h := mandolineref13_Of.calls (3 * bigK) st A c (fs.map fS) (bs asked) _ _ _ w (by rw [List.length_map]; exact hr) (by rw [List.length_map]; exact hc) (p_refOf st fs hf asked)
  rw [List.length_map] at h
  exact h
end Go.Proofs.YteneioapchhehaaDoor

/- What came in: bytes. -/
namespace Go.Proofs.YteneioapchhehaaDoor
open Go.ChangeShapes Go.WideShapes Go.RowKit

theorem okWide_spot {P : Program} {W : World} {r : Go.Reach} {base : Nat} {t e : TypeId} {a : Addr} {n c : Nat} (ht : P.underlying t = some (.slice e)) (h : Value.okWide P W r base t (.slice (some a) n c)) : a.spot = none := by
  simp only [Value.okWide, ht, Cell.okWide, Cell.ok] at h
  exact h.2.2.2.1

theorem u8_val {z : Int} (h : (Lit.int .u8 z).wf = true) : Value.int .u8 z = bv (UInt8.ofNat z.toNat) := by
  have h1 : IntKind.u8.min = 0 := rfl
  have h2 : IntKind.u8.max = 255 := rfl
  simp [Lit.wf, h1, h2] at h
  have : ((UInt8.ofNat z.toNat).toNat : Int) = z := by
    rw [UInt8.toNat_ofNat', Nat.mod_eq_of_lt (by omega)]; omega
  rw [bv, this]

/-- no list weighs more than a machine holds -/
def Rch (ns : List Nat) : Prop := ns.all (· ≤ reachBytes) = true
theorem Rch.head {n : Nat} {ns : List Nat} (h : Rch (n :: ns)) : n ≤ reachBytes := by
  simp [Rch] at h; exact h.1
theorem Rch.tail {n : Nat} {ns : List Nat} (h : Rch (n :: ns)) : Rch ns := by
  simp [Rch] at h ⊢; exact h.2
theorem Rch.left {a b : List Nat} (h : Rch (a ++ b)) : Rch a := by
  unfold Rch at h ⊢; rw [List.all_append, Bool.and_eq_true] at h; exact h.1
theorem Rch.right {a b : List Nat} (h : Rch (a ++ b)) : Rch b := by
  unfold Rch at h ⊢; rw [List.all_append, Bool.and_eq_true] at h; exact h.2
theorem weights_slice {H : Type} {t e : TypeId} (ht : Tryd.prog.underlying t = some (.slice e)) (a b : List (DataW H)) : DataW.weights Tryd.prog t (.slice a b) = (a.length + b.length) * Tryd.prog.bytesOf e :: (DataW.weightsAll Tryd.prog e a ++ DataW.weightsAll Tryd.prog e b) := by
  rw [DataW.weights, ht]
theorem Rch.nth {H : Type} {e : TypeId} : ∀ {l : List (DataW H)} {i : Nat} {d : DataW H}, Rch (DataW.weightsAll Tryd.prog e l) → l[i]? = some d → Rch (DataW.weights Tryd.prog e d)
  | [], _, _, _, hi => by simp at hi
  | x :: l, 0, _, h, hi => by
    cases hi
    rw [DataW.weightsAll] at h
    exact h.left
  | x :: l, i + 1, _, h, hi => by
    rw [DataW.weightsAll] at h
    exact Rch.nth h.right (by simpa using hi)

set_option maxRecDepth 100000 in
theorem open_bs_cells {H : Type} {enc : TypeId × Value → H} {W : World} {base' : Nat} {sp : Nat → Bool} {held : Bool} {fuel : Nat} {cs : List Value} {x : DataW H × List MemPlace} (hf : DataW.trod enc Tryd.prog W base' sp held fuel 43 cs = some x) (hz : Rch (DataW.weights Tryd.prog 43 x.1)) :
    ∃ ao l c, cs = [.slice ao (List.length l) c] ∧ l.length ≤ c ∧ c ≤ maxLen ∧ Bs W ao l ∧ (ao = none → c = 0) ∧ l.length ≤ reachBytes := by
  rcases open_ints Tryd.underlying43 Tryd.underlying5 (by kernel_rfl) hf with ⟨hcs, _⟩ | ⟨a, len0, cap0, zs, hcs, _, hl, hm, hzs, hx, hcell, hwz⟩
  · exact ⟨none, [], 0, hcs, Nat.le_refl _, Nat.zero_le _, Bs.nil W, fun _ => rfl, Nat.zero_le _⟩
  · have hzl : len0 ≤ zs.length := by rw [hzs]; split <;> omega
    have hlen : len0 ≤ reachBytes := by
      rw [hx] at hz
      dsimp only at hz
      rw [weights_slice Tryd.underlying43] at hz
      have h1 := hz.head
      have hb : Tryd.prog.bytesOf 5 = 1 := by kernel_rfl
      rw [hb] at h1
      simp [lits, Nat.min_eq_left hzl] at h1
      omega
    refine ⟨some a, (zs.take len0).map fun z => UInt8.ofNat z.toNat, cap0, by simp [Nat.min_eq_left hzl]; exact hcs, by simp [Nat.min_eq_left hzl]; exact hl, hm, ⟨nofun, ?_⟩, nofun, by simp [Nat.min_eq_left hzl]; exact hlen⟩
    rintro ad ⟨⟩
    intro j b hj
    have hlt : j < len0 := by
      have := (List.getElem?_eq_some_iff.1 hj).1
      simp at this; omega
    have hjz : j < zs.length := by omega
    have hc := hcell j hjz
    rw [List.getElem?_map, List.getElem?_take_of_lt hlt, List.getElem?_eq_getElem hjz] at hj
    simp only [Option.map_some, Option.some.injEq] at hj
    rw [List.getD_eq_getElem?_getD, List.getElem?_eq_getElem hjz, Option.getD_some, u8_val (hwz _ (List.getElem_mem hjz)), hj] at hc
    exact hc

set_option maxRecDepth 100000 in
theorem open_bs {H : Type} {enc : TypeId × Value → H} {W : World} {r : Go.Reach} {base base' : Nat} {sp : Nat → Bool} {held : Bool} {v : Value} {d : DataW H} {p : List MemPlace} (hok : Value.okWide Tryd.prog W r base 43 v) (h : DataW.Trod enc Tryd.prog W base' sp held 43 v d p) (hz : Rch (DataW.weights Tryd.prog 43 d)) :
    ∃ ao l c, v = .slice ao (List.length l) c ∧ l.length ≤ c ∧ c ≤ maxLen ∧ Bs W ao l ∧ (ao = none → c = 0) ∧ l.length ≤ reachBytes := by
  obtain ⟨a0, len0, cap0, rfl⟩ := okWide_slice Tryd.underlying43 hok
  obtain ⟨fuel, hf⟩ := h
  obtain ⟨ao, l, c, hcs, rest⟩ := open_bs_cells hf hz
  simp [Value.cells] at hcs
  obtain ⟨rfl, rfl, rfl⟩ := hcs
  exact ⟨a0, l, cap0, rfl, rest⟩

/-- slices of bytes, side by side: what each reads -/
def Bss (w : World) (ao : Option Addr) (ls : List (Option Addr × List UInt8 × Nat)) : Prop :=
  (ao = none → ls = []) ∧ ∀ ad, ao = some ad → ∀ j x, ls[j]? = some x → w.cell? (ad.add j) = some (.slice x.1 x.2.1.length x.2.2) ∧ Bs w x.1 x.2.1 ∧ x.2.1.length ≤ x.2.2 ∧ (x.1 = none → x.2.2 = 0) ∧ x.2.1.length ≤ reachBytes

theorem list_of {α : Type} (Q : Nat → α → Prop) : ∀ n, (∀ i, i < n → ∃ x, Q i x) → ∃ l : List α, l.length = n ∧ ∀ j x, l[j]? = some x → Q j x
  | 0, _ => ⟨[], rfl, by simp⟩
  | n + 1, h => by
    obtain ⟨l, hl, hp⟩ := list_of Q n (fun i hi => h i (by omega))
    obtain ⟨x, hx⟩ := h n (by omega)
    refine ⟨l ++ [x], by simp [hl], fun j y hj => ?_⟩
    by_cases hlt : j < n
    · rw [List.getElem?_append_left (by omega)] at hj; exact hp j y hj
    · rw [List.getElem?_append_right (by omega)] at hj
      have : j - l.length = 0 := by
        have := (List.getElem?_eq_some_iff.1 hj).1
        simp at this; omega
      rw [this] at hj
      cases hj
      rw [show j = n from by omega]; exact hx

set_option maxRecDepth 100000 in
theorem open_bss {H : Type} {enc : TypeId × Value → H} {W : World} {r : Go.Reach} {base base' : Nat} {sp : Nat → Bool} {held : Bool} {v : Value} {d : DataW H} {p : List MemPlace} (hok : Value.okWide Tryd.prog W r base 32 v) (h : DataW.Trod enc Tryd.prog W base' sp held 32 v d p) (hz : Rch (DataW.weights Tryd.prog 32 d)) :
    ∃ ao ls c, v = .slice ao (List.length ls) c ∧ ls.length ≤ c ∧ c ≤ maxLen ∧ Bss W ao ls ∧ (ao = none → c = 0) ∧ ls.length ≤ reachBytes := by
  obtain ⟨a0, len0, cap0, rfl⟩ := okWide_slice Tryd.underlying32 hok
  obtain ⟨fuel, hf⟩ := h
  rcases DataW.trod_slice Tryd.underlying32 hf with ⟨hcs, _⟩ | ⟨a, len, cap, elems, rest, n, _, hcs, hx, hb, hl, hm, hlen, hel, _, _⟩
  · simp [Value.cells] at hcs
    obtain ⟨rfl, rfl, rfl⟩ := hcs
    exact ⟨none, [], 0, rfl, Nat.le_refl _, Nat.zero_le _, ⟨fun _ => rfl, nofun⟩, fun _ => rfl, Nat.zero_le _⟩
  · simp [Value.cells] at hcs
    obtain ⟨rfl, rfl, rfl⟩ := hcs
    have hd : d = .slice (elems.map (·.1)) (rest.map (·.1)) := congrArg Prod.fst hx
    subst hd
    rw [weights_slice Tryd.underlying32] at hz
    have hc1 : Tryd.prog.cellsOf 43 = 1 := by kernel_rfl
    rw [hc1] at hel
    have each : ∀ i, i < len0 → ∃ x : Option Addr × List UInt8 × Nat, W.cell? (a.add i) = some (.slice x.1 x.2.1.length x.2.2) ∧ Bs W x.1 x.2.1 ∧ x.2.1.length ≤ x.2.2 ∧ (x.1 = none → x.2.2 = 0) ∧ x.2.1.length ≤ reachBytes := by
      intro i hi
      have h1 := hel i hi
      rw [List.getElem?_eq_getElem (by omega), Nat.mul_one, Option.bind_eq_some_iff] at h1
      obtain ⟨cs', hcs', hy⟩ := h1
      obtain ⟨ao, l, c, rfl, h2, h3, h4, h5, h6⟩ := open_bs_cells hy (Rch.nth (i := i) hz.tail.left (by rw [List.getElem?_map, List.getElem?_eq_getElem (by omega)]; rfl))
      exact ⟨(ao, l, c), cell_of_cells?_one hcs', h4, h2, h5, h6⟩
    have hlr : len0 ≤ reachBytes := by
      have h1 := hz.head
      have hb : Tryd.prog.bytesOf 43 = 24 := by kernel_rfl
      rw [hb] at h1
      simp only [List.length_map, hlen] at h1
      omega
    obtain ⟨ls, hls, hp⟩ := list_of _ len0 each
    subst hls
    refine ⟨some a, ls, cap0, rfl, hl, hm, ⟨nofun, ?_⟩, nofun, hlr⟩
    rintro ad ⟨⟩
    exact hp
end Go.Proofs.YteneioapchhehaaDoor

/- What came in: fields. -/
namespace Go.Proofs.YteneioapchhehaaDoor
open Go.ChangeShapes Go.WideShapes Go.RowKit Go.Proofs.YteneioapchhehaaDoor.PFr Go.Proofs.YteneioapchhehaaDoorW.PrintWords

theorem weights_string {H : Type} (b : List UInt8) : DataW.weights (H := H) Tryd.prog 9 (.lit (.string b)) = [b.length] := rfl

theorem fields_at {w : World} {ad : Addr} {fs : List (BL × BL)} (hl : fs.length ≤ 9223372036854775807) (h : ∀ j x, fs[j]? = some x → w.cell? (ad.add (j * 2)) = some (.string (bs x.1)) ∧ w.cell? (ad.add (j * 2 + 1)) = some (.string (bs x.2))) : FsAt w (some ad) fs := by
  refine ⟨by simp, hl, fun _ => ⟨_, rfl, fun j p hj => ?_⟩⟩
  rw [List.getElem?_map, Option.map_eq_some_iff] at hj
  obtain ⟨x, hx, rfl⟩ := hj
  refine ⟨_, rfl, k59_mk w (fS x), fun i u hu => ?_⟩
  obtain ⟨h1, h2⟩ := h j x hx
  match i, hu with
  | 0, hu => cases hu; exact h1
  | 1, hu => cases hu; exact h2

set_option maxRecDepth 100000 in
theorem open_fld {H : Type} {enc : TypeId × Value → H} {W : World} {base' : Nat} {sp : Nat → Bool} {held : Bool} {fuel : Nat} {cs : List Value} {y : DataW H × List MemPlace} (h : DataW.trod enc Tryd.prog W base' sp held fuel 59 cs = some y) (hz : Rch (DataW.weights Tryd.prog 59 y.1)) :
    ∃ x : BL × BL, cs = [.string (bs x.1), .string (bs x.2)] ∧ x.1.length ≤ reachBytes ∧ x.2.length ≤ reachBytes := by
  obtain ⟨y0, y1, n, rfl, hl, h0, h1⟩ := trod_struct2 Tryd.underlying59 h
  obtain ⟨s, hs, rfl, -⟩ := DataW.trod_string Tryd.underlying9 h0
  obtain ⟨t, ht, rfl, -⟩ := DataW.trod_string Tryd.underlying9 h1
  have hc2 : Tryd.prog.cellsOf 59 = 2 := by kernel_rfl
  have hc1 : Tryd.prog.cellsOf 9 = 1 := by kernel_rfl
  rw [hc2] at hl
  simp only [hc1] at hs ht
  obtain ⟨u, v, rfl⟩ : ∃ u v, cs = [u, v] := by
    match cs, hl with
    | [u, v], _ => exact ⟨u, v, rfl⟩
  simp at hs ht
  subst hs
  subst ht
  refine ⟨(s.data.toList, t.data.toList), by rw [bs_self, bs_self], ?_⟩
  rw [DataW.weights, Tryd.underlying59] at hz
  dsimp only at hz
  have hz1 : Rch (s.data.toList.length :: ([t.data.toList.length] ++ [])) := hz
  exact ⟨hz1.head, hz1.tail.head⟩

set_option maxRecDepth 100000 in
theorem open_fs {H : Type} {enc : TypeId × Value → H} {W : World} {r : Go.Reach} {base base' : Nat} {sp : Nat → Bool} {held : Bool} {v : Value} {d : DataW H} {p : List MemPlace} (hok : Value.okWide Tryd.prog W r base 22 v) (h : DataW.Trod enc Tryd.prog W base' sp held 22 v d p) (hz : Rch (DataW.weights Tryd.prog 22 d)) :
    ∃ ao fs c, v = .slice ao (List.length fs) c ∧ fs.length ≤ c ∧ (ao = none → c = 0) ∧ FsAt W ao fs ∧ (∀ x ∈ fs, x.1.length ≤ 140737488355328 ∧ x.2.length ≤ 140737488355328) ∧ fs.length ≤ 4398046511104 := by
  obtain ⟨a0, len0, cap0, rfl⟩ := okWide_slice Tryd.underlying22 hok
  obtain ⟨fuel, hf⟩ := h
  rcases DataW.trod_slice Tryd.underlying22 hf with ⟨hcs, _⟩ | ⟨a, len, cap, elems, rest, n, _, hcs, hx, hb, hl, hm, hlen, hel, _, _⟩
  · simp [Value.cells] at hcs
    obtain ⟨rfl, rfl, rfl⟩ := hcs
    exact ⟨none, [], 0, rfl, Nat.le_refl _, fun _ => rfl, FsAt.nil W, nofun, Nat.zero_le _⟩
  · simp [Value.cells] at hcs
    obtain ⟨rfl, rfl, rfl⟩ := hcs
    have hd : d = .slice (elems.map (·.1)) (rest.map (·.1)) := congrArg Prod.fst hx
    subst hd
    rw [weights_slice Tryd.underlying22] at hz
    have hc1 : Tryd.prog.cellsOf 59 = 2 := by kernel_rfl
    rw [hc1] at hel
    have each : ∀ i, i < len0 → ∃ x : BL × BL, (W.cell? (a.add (i * 2)) = some (.string (bs x.1)) ∧ W.cell? (a.add (i * 2 + 1)) = some (.string (bs x.2))) ∧ x.1.length ≤ reachBytes ∧ x.2.length ≤ reachBytes := by
      intro i hi
      have h1 := hel i hi
      rw [List.getElem?_eq_getElem (by omega), Option.bind_eq_some_iff] at h1
      obtain ⟨cs', hcs', hy⟩ := h1
      obtain ⟨x, rfl, h2, h3⟩ := open_fld hy (Rch.nth (i := i) hz.tail.left (by rw [List.getElem?_map, List.getElem?_eq_getElem (by omega)]; rfl))
      obtain ⟨-, hll, hcc⟩ := World.cells?_some hcs'
      refine ⟨x, ⟨?_, ?_⟩, h2, h3⟩
      · have := hcc 0 (by omega)
        rw [Addr.add_add, Nat.add_zero] at this
        exact this
      · have := hcc 1 (by omega)
        rw [Addr.add_add] at this
        exact this
    have hlr : len0 ≤ 4398046511104 := by
      have h1 := hz.head
      have hb : Tryd.prog.bytesOf 59 = 32 := by kernel_rfl
      rw [hb] at h1
      simp only [List.length_map, hlen, reachBytes] at h1
      omega
    obtain ⟨ls, hls, hp⟩ := list_of _ len0 each
    subst hls
    refine ⟨some a, ls, cap0, rfl, hl, nofun, fields_at (by omega) fun j x hx => (hp j x hx).1, fun x hx => ?_, hlr⟩
    obtain ⟨j, hj, rfl⟩ := List.getElem_of_mem hx
    have := (hp j _ (List.getElem?_eq_getElem hj)).2
    simp only [reachBytes] at this
    omega
end Go.Proofs.YteneioapchhehaaDoor

/- What the rows' list of package-level variables gives the walks, and a world for the witness. -/
namespace Go.Proofs.YteneioapchhehaaDoor
open Go.ChangeShapes Go.WideShapes Go.ChangeAt Go.RowKit

theorem own_knob : ownKnob Tryd.prog.godebug = none := by kernel_rfl
theorem laid_out : laidOutB Tryd.prog = true := by kernel_rfl
theorem es_star : "*" ++ "errors.errorString" = "*errors.errorString" := by decide
theorem es_row (u : TypeId) (h : Tryd.prog.typeName? 3 u = some "*errors.errorString") : u = 156 :=
  typeName_ptr_named (nm := "errors.errorString") (by rw [es_star]; kernel_rfl) (by kernel_rfl) (by decide) u (by rw [es_star]; exact h)

def laidL : List (String × DataW Unit) := [("math/bits.deBruijn32tab", Rows.laid_math_bits_deBruijn32tab), ("math/bits.deBruijn64tab", Rows.laid_math_bits_deBruijn64tab), ("internal/strconv.uint64pow10", Rows.laid_internal_strconv_uint64pow10), ("unicode/utf8.acceptRanges", Rows.laid_unicode_utf8_acceptRanges), ("strconv.ErrRange", Rows.laid_strconv_ErrRange), ("strconv.ErrSyntax", Rows.laid_strconv_ErrSyntax), ("unicode/utf8.first", Rows.laid_unicode_utf8_first)]

abbrev deb64L : List Int := [0, 1, 56, 2, 57, 49, 28, 3, 61, 58, 42, 50, 38, 29, 17, 4, 62, 47, 59, 36, 45, 43, 51, 22, 53, 39, 33, 30, 24, 18, 12, 5, 63, 55, 48, 27, 60, 41, 37, 16, 46, 35, 44, 21, 52, 32, 23, 11, 54, 26, 40, 15, 34, 20, 31, 10, 25, 14, 19, 9, 13, 8, 7, 6]

/-- the package variables, off the row's list -/
theorem gw_of_laid {W : World} (h : laidMetH Tryd.prog laidL W) : Gw W := by
  have hL : laidMet Tryd.prog laidL W := h
  have h1 : laidMet Tryd.prog (laidL.drop 1) W := hL.tail
  have h4 : laidMet Tryd.prog (laidL.drop 4) W := hL.tail.tail.tail.tail
  have h5 : laidMet Tryd.prog (laidL.drop 5) W := hL.tail.tail.tail.tail.tail
  have ht : Lib.TabIs Tryd.prog W "math/bits.deBruijn64tab" .u8 deb64L :=
    Lib.tabIs_of_head (rest := laidL.drop 2) (g := 7) (t := 168) (e := 5) (n := 64) (by kernel_rfl) (by kernel_rfl) (by kernel_rfl) (by kernel_rfl) (by kernel_rfl) (by kernel_rfl) h1
  obtain ⟨a0, t0, hv0, hc0, -, -⟩ := laid_sentinel (r := laidL.drop 6) (g := 0) (ti := 94) (tp := 156) (te := 158) (ts := 9) h5 (by kernel_rfl) (by kernel_rfl) Tryd.underlying94 es_row Tryd.underlying156 Tryd.underlying158 rfl rfl Tryd.underlying9 (by kernel_rfl) (by kernel_rfl)
  obtain ⟨a1, t1, hv1, hc1, -, -⟩ := laid_sentinel (r := laidL.drop 5) (g := 1) (ti := 94) (tp := 156) (te := 158) (ts := 9) h4 (by kernel_rfl) (by kernel_rfl) Tryd.underlying94 es_row Tryd.underlying156 Tryd.underlying158 rfl rfl Tryd.underlying9 (by kernel_rfl) (by kernel_rfl)
  have e0 := World.var?_cell (g := 0) (by kernel_rfl) hv0 0
  have e1 := World.var?_cell (g := 1) (by kernel_rfl) hv1 0
  have E0 : ErrVar 0 W := ⟨_, by simpa using e0, .inr ⟨_, _, rfl⟩⟩
  have E1 : ErrVar 1 W := ⟨_, by simpa using e1, .inr ⟨_, _, rfl⟩⟩
  exact ⟨⟨ht.cell (by kernel_rfl) 15 (by decide), E0⟩, ⟨E0, E1⟩⟩

/-- a world for the witness: the settled one with two blocks more (the errors' structs), the variables as their initialisers lay them -/
noncomputable def laidWorld (os : Os) : World :=
  let N := (World.settled Tryd.prog os).heap.size
  let w0 := World.holding Tryd.prog os ⟨#[.cells #[.string ⟨#[118, 97, 108, 117, 101, 32, 111, 117, 116, 32, 111, 102, 32, 114, 97, 110, 103, 101]⟩] 158, .cells #[.string ⟨#[105, 110, 118, 97, 108, 105, 100, 32, 115, 121, 110, 116, 97, 120]⟩] 158], #[], []⟩
  let put (h : Array Obj) (g : Nat) (cs : Array Value) : Array Obj := h.modify g fun
    | .cells _ t frozen => .cells cs t frozen
    | o => o
  let h1 := put w0.heap 1 #[.iface 156 (.pointer (some ⟨N, 0, none⟩))]
  let h2 := put h1 0 #[.iface 156 (.pointer (some ⟨N + 1, 0, none⟩))]
  let h3 := put h2 7 (deb64L.map fun z => Value.int .u8 z).toArray
  let h4 := put h3 6 (([0, 1, 28, 2, 29, 14, 24, 3, 30, 22, 20, 15, 25, 17, 4, 8, 31, 27, 13, 23, 21, 19, 16, 7, 26, 12, 18, 6, 11, 5, 10, 9] : List Int).map fun z => Value.int .u8 z).toArray
  let h5 := put h4 4 (((List.range 20).map fun i => Value.int .u64 (10 ^ i : Nat))).toArray
  let h6 := put h5 2 ((Go.Pinned.utf8FirstZ.map fun (z : Nat) => Value.int .u8 (z : Int))).toArray
  let h7 := put h6 3 (([128, 191, 160, 191, 128, 159, 144, 191, 128, 143, 0, 0, 0, 0, 0, 0, 0, 0, 0, 0, 0, 0, 0, 0, 0, 0, 0, 0, 0, 0, 0, 0] : List Int).map fun z => Value.int .u8 z).toArray
  { w0 with heap := h7 }

theorem laid_met (os : Os) (args : Array Value) : laidMetH Tryd.prog laidL ((laidWorld os).forCall (fun _ _ => 0) ⟨#[], args, []⟩).memory :=
  show laidMet Tryd.prog laidL ((laidWorld os).forCall (fun _ _ => 0) ⟨#[], args, []⟩).memory from laidMet_of_run' 8 (by kernel_rfl) (by kernel_rfl)
end Go.Proofs.YteneioapchhehaaDoor
