/- Plain laws of a reader's Take. -/
import Derived.Test.YtiaafndkbcpbdaaDoorCkL
namespace Go.Proofs.YtiaafndkbcpbdaaDoor
open Go.RowKit

/-- what is so behind any bytes -/
structure TkOk (r : Rd) (l out : List UInt8) (k : Nat) (q : Rd × List UInt8 × Nat × Bool) : Prop where
  i : RdI q.1
  ok : q.2.2.2 = true → q.1.st ≤ 10 ∧ k ≤ q.2.2.1 ∧ q.2.2.1 ≤ k + l.length ∧ out.length ≤ q.2.1.length ∧ q.2.1.length ≤ out.length + l.length
  er : q.2.2.2 = false → q.1.st = 11 ∧ q.2.1 = [] ∧ k ≤ q.2.2.1 ∧ q.2.2.1 ≤ k + l.length

theorem runA_ok : ∀ (l : List UInt8) (r : Rd) (out : List UInt8) (k : Nat), RdI r → r.st ≤ 10 → TkOk r l out k (runA r l out k)
  | [], r, out, k, hi, hr => ⟨hi, fun _ => ⟨hr, Nat.le_refl _, Nat.le_refl _, Nat.le_refl _, Nat.le_refl _⟩, fun h => by cases h⟩
  | c :: l, r, out, k, hi, hr => by
    rw [runA]
    split
    · exact ⟨hi, fun _ => ⟨hr, Nat.le_refl _, by dsimp only; omega, Nat.le_refl _, by dsimp only; omega⟩, fun h => by cases h⟩
    · split
      · rename_i h3
        have hd := hi.data h3
        have := runA_ok l (dataS r) (out ++ [c]) (k + 1) hd (by unfold dataS; dsimp only; split <;> omega)
        refine ⟨this.i, fun h => ?_, fun h => ?_⟩
        · have := this.ok h
          simp only [List.length_append, List.length_cons, List.length_nil] at this ⊢
          omega
        · have := this.er h
          simp only [List.length_append, List.length_cons, List.length_nil] at this ⊢
          exact ⟨this.1, this.2.1, by omega, by omega⟩
      · split
        · rename_i hb
          have := runA_ok l (takeS r c.toNat).1 out (k + 1) (hi.take _ hb) (hi.take_st _ hr hb)
          refine ⟨this.i, fun h => ?_, fun h => ?_⟩
          · have := this.ok h
            simp only [List.length_append, List.length_cons, List.length_nil] at this ⊢
            omega
          · have := this.er h
            simp only [List.length_append, List.length_cons, List.length_nil] at this ⊢
            exact ⟨this.1, this.2.1, by omega, by omega⟩
        · exact ⟨hi.broken _, fun h => (by cases h), fun _ => ⟨rfl, rfl, Nat.le_refl _, by dsimp only; omega⟩⟩

theorem takeA_i {r : Rd} (hi : RdI r) (l : List UInt8) : RdI (takeA r l).1 := by
  unfold takeA
  split
  · exact hi
  · exact (runA_ok l r [] 0 hi (by have := hi.st; omega)).i
theorem takeA_er {r : Rd} (hi : RdI r) (l : List UInt8) (h : (takeA r l).2.2.2 = false) : (takeA r l).1.st = 11 ∧ (takeA r l).2.1 = [] := by
  unfold takeA at h ⊢
  split
  · rename_i h11; exact ⟨h11, rfl⟩
  · rename_i h11
    rw [if_neg h11] at h
    have := (runA_ok l r [] 0 hi (by have := hi.st; omega)).er h
    exact ⟨this.1, this.2.1⟩
theorem takeA_ok {r : Rd} (hi : RdI r) (l : List UInt8) (h : (takeA r l).2.2.2 = true) : (takeA r l).1.st ≤ 10 ∧ (takeA r l).2.2.1 ≤ l.length ∧ (takeA r l).2.1.length ≤ l.length := by
  unfold takeA at h ⊢
  split
  · rename_i h11; rw [if_pos h11] at h; cases h
  · rename_i h11
    rw [if_neg h11] at h
    have := (runA_ok l r [] 0 hi (by have := hi.st; omega)).ok h
    simp only [List.length_nil, Nat.zero_add] at this
    exact ⟨this.1, this.2.2.1, this.2.2.2.2⟩
theorem takeA_len {r : Rd} (hi : RdI r) (l : List UInt8) : (takeA r l).2.1.length ≤ l.length ∧ (takeA r l).2.2.1 ≤ l.length := by
  cases h : (takeA r l).2.2.2 with
  | true => have := takeA_ok hi l h; exact ⟨this.2.2, this.2.1⟩
  | false =>
    rw [(takeA_er hi l h).2]
    refine ⟨Nat.zero_le _, ?_⟩
    unfold takeA at h ⊢
    split
    · exact Nat.zero_le _
    · rename_i h11
      rw [if_neg h11] at h
      have := (runA_ok l r [] 0 hi (by have := hi.st; omega)).er h
      omega
theorem takeA_broken {r : Rd} (h : r.st = 11) (l : List UInt8) : takeA r l = (r, [], 0, false) := if_pos h
theorem takeA_done {r : Rd} (h : r.st = 10) (l : List UInt8) : takeA r l = (r, [], 0, true) := by
  unfold takeA
  rw [if_neg (by omega)]
  cases l with
  | nil => rfl
  | cons c l => rw [runA, if_pos h]

/-- one piece behind the other -/
theorem runA_app : ∀ (l m : List UInt8) (r : Rd) (out : List UInt8) (k : Nat),
    runA r (l ++ m) out k = if (runA r l out k).2.2.2 = true then runA (runA r l out k).1 m (runA r l out k).2.1 (runA r l out k).2.2.1 else runA r l out k
  | [], m, r, out, k => by simp [runA]
  | c :: l, m, r, out, k => by
    rw [List.cons_append, runA]
    by_cases h10 : r.st = 10
    · have e1 : runA r (c :: l) out k = (r, out, k, true) := by rw [runA, if_pos h10]
      rw [if_pos h10, e1]
      dsimp only
      rw [if_pos rfl]
      cases m with
      | nil => rfl
      | cons d m => rw [runA, if_pos h10]
    · rw [if_neg h10]
      by_cases h3 : r.st = 3
      · have e1 : runA r (c :: l) out k = runA (dataS r) l (out ++ [c]) (k + 1) := by rw [runA, if_neg h10, if_pos h3]
        rw [if_pos h3, e1, runA_app l m]
      · rw [if_neg h3]
        by_cases hb : (takeS r c.toNat).2 = true
        · have e1 : runA r (c :: l) out k = runA (takeS r c.toNat).1 l out (k + 1) := by rw [runA, if_neg h10, if_neg h3, if_pos hb]
          rw [if_pos hb, e1, runA_app l m]
        · have e1 : runA r (c :: l) out k = ({ (takeS r c.toNat).1 with st := 11 }, [], k, false) := by rw [runA, if_neg h10, if_neg h3, if_neg hb]
          rw [if_neg hb, e1]
          dsimp only
          rw [if_neg (by decide)]

/-- what was told before, and how many -/
theorem runA_from : ∀ (l : List UInt8) (r : Rd) (out : List UInt8) (k : Nat),
    runA r l out k = ((runA r l [] 0).1, (if (runA r l [] 0).2.2.2 = true then out ++ (runA r l [] 0).2.1 else []), k + (runA r l [] 0).2.2.1, (runA r l [] 0).2.2.2)
  | [], r, out, k => by simp [runA]
  | c :: l, r, out, k => by
    by_cases h10 : r.st = 10
    · have e : ∀ o k, runA r (c :: l) o k = (r, o, k, true) := fun o k => by rw [runA, if_pos h10]
      rw [e, e]; simp
    · by_cases h3 : r.st = 3
      · have e : ∀ o k, runA r (c :: l) o k = runA (dataS r) l (o ++ [c]) (k + 1) := fun o k => by rw [runA, if_neg h10, if_pos h3]
        rw [e, e, runA_from l _ (out ++ [c]), runA_from l _ ([] ++ [c])]
        simp only [Prod.mk.injEq, true_and, and_true]
        constructor
        · cases (runA (dataS r) l [] 0).2.2.2 <;> simp
        · omega
      · by_cases hb : (takeS r c.toNat).2 = true
        · have e : ∀ o k, runA r (c :: l) o k = runA (takeS r c.toNat).1 l o (k + 1) := fun o k => by rw [runA, if_neg h10, if_neg h3, if_pos hb]
          rw [e, e, runA_from l _ out (k + 1), runA_from l _ [] (0 + 1)]
          simp only [Prod.mk.injEq, true_and, and_true]
          constructor
          · cases (runA (takeS r c.toNat).1 l [] 0).2.2.2 <;> simp
          · omega
        · have e : ∀ o k, runA r (c :: l) o k = ({ (takeS r c.toNat).1 with st := 11 }, [], k, false) := fun o k => by rw [runA, if_neg h10, if_neg h3, if_neg hb]
          rw [e, e]; simp

/-- pieces -/
theorem takeA_app {r : Rd} (hi : RdI r) (l m : List UInt8) (h : (takeA r l).2.2.2 = true) :
    takeA r (l ++ m) = ((takeA (takeA r l).1 m).1, (if (takeA (takeA r l).1 m).2.2.2 = true then (takeA r l).2.1 ++ (takeA (takeA r l).1 m).2.1 else []), (takeA r l).2.2.1 + (takeA (takeA r l).1 m).2.2.1, (takeA (takeA r l).1 m).2.2.2) := by
  have h1 := (takeA_ok hi l h).1
  have h11 : ¬ r.st = 11 := by intro e; rw [takeA_broken e] at h; cases h
  have e1 : takeA r l = runA r l [] 0 := if_neg h11
  have e2 : takeA r (l ++ m) = runA r (l ++ m) [] 0 := if_neg h11
  have e3 : takeA (takeA r l).1 m = runA (takeA r l).1 m [] 0 := if_neg (by omega)
  rw [e3, e2, runA_app, e1, if_pos (e1 ▸ h)]
  exact runA_from m _ _ _
theorem takeA_app_er {r : Rd} (l m : List UInt8) (h : (takeA r l).2.2.2 = false) : takeA r (l ++ m) = takeA r l := by
  by_cases h11 : r.st = 11
  · rw [takeA_broken h11, takeA_broken h11]
  · have e1 : takeA r l = runA r l [] 0 := if_neg h11
    have e2 : takeA r (l ++ m) = runA r (l ++ m) [] 0 := if_neg h11
    rw [e1, e2, runA_app, ← e1, if_neg (by rw [h]; decide)]
end Go.Proofs.YtiaafndkbcpbdaaDoor
