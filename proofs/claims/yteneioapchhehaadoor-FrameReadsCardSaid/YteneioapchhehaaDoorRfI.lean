/- The reference of chapter 10 and package chunk: plain laws: byte by byte they go together. -/
import Derived.Test.YteneioapchhehaaDoorRfF
namespace Go.Proofs.YteneioapchhehaaDoor
open Go.RowKit

def runR : RR → List UInt8 → List UInt8 → Nat → RR × List UInt8 × Nat × Bool
  | x, [], out, k => (x, out, k, true)
  | x, c :: l, out, k =>
    if x.st = 10 then (x, out, k, true)
    else if (stepR x c.toNat).2.2 = true then runR (stepR x c.toNat).1 l (if (stepR x c.toNat).2.1 = true then out ++ [c] else out) (k + 1)
    else ({ x with st := 11 }, [], k, false)
def rtakeA (x : RR) (l : List UInt8) : RR × List UInt8 × Nat × Bool := if x.st = 11 then (x, [], 0, false) else runR x l [] 0

/-- the two readers stand alike -/
structure Cor (r : Rd) (x : RR) : Prop where
  st : x.st = r.st
  s0 : r.st = 0 → x.dg = r.ln ∧ x.ln = r.ln
  s1 : r.st = 1 ∨ r.st = 7 → x.ln = r.ln
  lf : r.st ≤ 5 → x.lf = r.lf ∧ r.mn = 0
  s6 : r.st = 6 → r.ln = 0
  mn : r.st ≤ 10 → x.mn = r.mn

theorem Cor.zero : Cor ⟨0, 0, 0, 0⟩ ⟨0, 0, 0, 0, 0⟩ := ⟨rfl, fun _ => ⟨rfl, rfl⟩, fun h => (by simp at h), fun _ => ⟨rfl, rfl⟩, fun h => (by simp at h), fun _ => rfl⟩
theorem Cor.broken {x : RR} (r' : Rd) : Cor { r' with st := 11 } { x with st := 11 } :=
  ⟨rfl, fun h => absurd h (by dsimp only; omega), fun h => absurd h (by dsimp only; omega), fun h => absurd h (by dsimp only; omega), fun h => absurd h (by dsimp only; omega), fun h => absurd h (by dsimp only; omega)⟩

theorem plainB_13 : plainB 13 = false := by decide
theorem plainB_not {c : Int} (h : plainB c = true) : ¬ c = 13 := by rintro rfl; exact absurd h (by decide)

theorem cor_data {r : Rd} {x : RR} (_ : RdI r) (hc : Cor r x) (h3 : r.st = 3) (c : Int) : (stepR x c).2.2 = true ∧ (stepR x c).2.1 = true ∧ Cor (dataS r) (stepR x c).1 := by
  have hx : x.st = 3 := hc.st.trans h3
  have hlf := (hc.lf (by omega)).1
  have hmn := (hc.lf (by omega)).2
  have hmm := hc.mn (by omega)
  unfold stepR dataS
  rw [if_neg (show ¬ x.st = 0 by omega), if_neg (show ¬ x.st = 1 by omega), if_neg (show ¬ x.st = 2 by omega), if_pos hx]
  refine ⟨rfl, rfl, ?_⟩
  rw [hlf]
  by_cases h : r.lf - 1 = 0
  · rw [if_pos h]
    exact ⟨rfl, fun h => absurd h (by dsimp only; omega), fun h => absurd h (by dsimp only; omega), fun _ => ⟨by dsimp only, hmn⟩, fun h => absurd h (by dsimp only; omega), fun _ => hmm⟩
  · rw [if_neg h]
    exact ⟨rfl, fun h => absurd h (by dsimp only; omega), fun h => absurd h (by dsimp only; omega), fun _ => ⟨by dsimp only, hmn⟩, fun h => absurd h (by dsimp only; omega), fun _ => hmm⟩

theorem hexV_13 : hexV 13 = -1 := by decide
theorem hexV_59 : hexV 59 = -1 := by decide
/-- what a step says, and what a byte does -/
def Tog (p : Rd × Bool) (q : RR × Bool × Bool) : Prop := q.2.2 = p.2 ∧ q.2.1 = false ∧ (p.2 = true → Cor p.1 q.1)
theorem Tog.no {r : Rd} {y : RR} : Tog (r, false) (y, false, false) := ⟨rfl, rfl, fun h => by cases h⟩

theorem cor_step {r : Rd} {x : RR} (hi : RdI r) (hc : Cor r x) (h : r.st ≤ 9 ∧ r.st ≠ 3) (c : Int) : Tog (takeS r c) (stepR x c) := by
  have hst := hi.st
  have hx := hc.st
  have hmm := hc.mn (by omega)
  unfold takeS stepR expectS
  by_cases s0 : r.st = 0
  · obtain ⟨hdg, hln⟩ := hc.s0 s0
    obtain ⟨hlf, hmn⟩ := hc.lf (by omega)
    have hs0 := hi.s0 s0
    have hl := hi.ln
    rw [if_pos s0, if_pos (hx.trans s0)]
    by_cases c13 : c = 13
    · subst c13
      rw [if_pos rfl, hexV_13, if_neg (show ¬ (0 ≤ (-1 : Int) ∧ r.ln < 15) by omega)]
      by_cases hz : r.ln = 0
      · rw [if_pos hz, hdg, hz]; exact Tog.no
      · rw [if_neg hz, if_neg (by decide), if_pos rfl]
        refine ⟨decide_eq_true (by omega), rfl, fun _ => ?_⟩
        exact ⟨rfl, fun h => absurd h (by dsimp only; omega), fun h => absurd h (by dsimp only; omega), fun _ => ⟨hlf, hmn⟩, fun h => absurd h (by dsimp only; omega), fun _ => hmm⟩
    · rw [if_neg c13]
      by_cases c59 : c = 59
      · subst c59
        rw [hexV_59, if_neg (show ¬ (0 ≤ (-1 : Int) ∧ r.ln < 15) by omega)]
        by_cases hz : r.ln = 0
        · rw [if_pos hz, if_neg (show ¬ ((59 : Int) = 59 ∧ 0 < x.dg) by omega)]; exact Tog.no
        · rw [if_neg hz, if_pos (show (59 : Int) = 59 ∧ 0 < x.dg by omega), if_pos (show (59 : Int) = 59 from rfl)]
          try rw [if_neg (show ¬ (59 : Int) = 13 by decide)]
          refine ⟨by unfold moreS; dsimp only; rw [hln], rfl, fun _ => ?_⟩
          exact ⟨rfl, fun h => absurd h (by dsimp only [moreS]; omega), fun _ => by dsimp only [moreS]; omega, fun _ => ⟨hlf, hmn⟩, fun h => absurd h (by dsimp only [moreS]; omega), fun _ => hmm⟩
      · rw [if_neg (show ¬ (c = 59 ∧ 0 < x.dg) by omega), if_neg c59, if_neg c13]
        by_cases hh : 0 ≤ hexV c
        · by_cases h15 : r.ln < 15
          · rw [if_pos ⟨hh, h15⟩, decide_eq_true hh, decide_eq_true (show x.dg + 1 ≤ 15 by omega)]
            refine ⟨rfl, rfl, fun _ => ?_⟩
            have hq := pow16_lt r.ln.toNat (by omega)
            have hr := hexV_rng c
            have hlf0 := hi.lf
            have e1 : wrap64 (wrap64 (16 * x.lf) + hexV c) = r.lf * 16 + hexV c := by
              rw [IntWalk.wrap64_in (16 * x.lf) (by omega), IntWalk.wrap64_in _ (by omega)]; omega
            exact ⟨hx, fun _ => ⟨by dsimp only; omega, by dsimp only; omega⟩, fun h => absurd h (by dsimp only; omega), fun _ => ⟨e1, hmn⟩, fun h => absurd h (by dsimp only; omega), fun _ => hmm⟩
          · rw [if_neg (show ¬ (0 ≤ hexV c ∧ r.ln < 15) by omega), if_neg (show ¬ r.ln = 0 by omega), decide_eq_true hh, decide_eq_false (show ¬ x.dg + 1 ≤ 15 by omega)]
            exact Tog.no
        · rw [if_neg (show ¬ (0 ≤ hexV c ∧ r.ln < 15) by omega), decide_eq_false hh]
          by_cases hz : r.ln = 0
          · rw [if_pos hz]; exact Tog.no
          · rw [if_neg hz]; exact Tog.no
  rw [if_neg s0, if_neg (show ¬ x.st = 0 from fun h => s0 (hx.symm.trans h))]
  by_cases s1 : r.st = 1
  · have hln := hc.s1 (.inl s1)
    obtain ⟨hlf, hmn⟩ := hc.lf (by omega)
    rw [if_pos s1, if_pos (hx.trans s1)]
    by_cases c13 : c = 13
    · subst c13
      rw [if_pos rfl, if_neg (by decide), if_pos rfl]
      exact ⟨rfl, rfl, fun _ => ⟨rfl, fun h => absurd h (by dsimp only; omega), fun h => absurd h (by dsimp only; omega), fun _ => ⟨hlf, hmn⟩, fun h => absurd h (by dsimp only; omega), fun _ => hmm⟩⟩
    · rw [if_neg c13, if_neg c13]
      cases hp : plainB c with
      | false => exact Tog.no
      | true =>
        rw [if_pos rfl]
        refine ⟨by unfold moreS; dsimp only; rw [hln]; rfl, rfl, fun _ => ?_⟩
        exact ⟨hx, fun h => absurd h (by dsimp only [moreS]; omega), fun _ => by dsimp only [moreS]; omega, fun _ => ⟨hlf, hmn⟩, fun h => absurd h (by dsimp only [moreS]; omega), fun _ => hmm⟩
  rw [if_neg s1, if_neg (show ¬ x.st = 1 from fun h => s1 (hx.symm.trans h))]
  by_cases s2 : r.st = 2
  · obtain ⟨hlf, hmn⟩ := hc.lf (by omega)
    rw [if_pos s2, if_pos (hx.trans s2)]
    unfold sizedN
    rw [hlf]
    by_cases c10 : c = 10
    · subst c10
      rw [if_pos rfl]
      refine ⟨rfl, rfl, fun _ => ?_⟩
      exact ⟨rfl, fun h => absurd h (by dsimp only; split <;> omega), fun h => absurd h (by dsimp only; split <;> omega), fun _ => ⟨rfl, hmn⟩, fun _ => rfl, fun _ => hmm⟩
    · rw [if_neg c10]
      refine ⟨beq_eq_false_iff_ne.2 c10, rfl, fun h => by cases h⟩
  rw [if_neg s2, if_neg (show ¬ x.st = 2 from fun h => s2 (hx.symm.trans h)), if_neg (show ¬ x.st = 3 from fun h' => h.2 (hx.symm.trans h'))]
  by_cases s4 : r.st = 4
  · obtain ⟨hlf, hmn⟩ := hc.lf (by omega)
    rw [if_pos s4, if_pos (hx.trans s4)]
    by_cases c13 : c = 13
    · subst c13
      rw [if_pos rfl]
      exact ⟨rfl, rfl, fun _ => ⟨rfl, fun h => absurd h (by dsimp only; omega), fun h => absurd h (by dsimp only; omega), fun _ => ⟨hlf, hmn⟩, fun h => absurd h (by dsimp only; omega), fun _ => hmm⟩⟩
    · rw [if_neg c13]
      exact ⟨beq_eq_false_iff_ne.2 c13, rfl, fun h => by cases h⟩
  rw [if_neg s4, if_neg (show ¬ x.st = 4 from fun h => s4 (hx.symm.trans h))]
  by_cases s5 : r.st = 5
  · obtain ⟨hlf, hmn⟩ := hc.lf (by omega)
    have h4 := hi.s4 (.inr s5)
    rw [if_pos s5, if_pos (hx.trans s5)]
    by_cases c10 : c = 10
    · subst c10
      rw [if_pos rfl]
      exact ⟨rfl, rfl, fun _ => ⟨rfl, fun _ => ⟨rfl, rfl⟩, fun h => absurd h (by dsimp only; omega), fun _ => ⟨h4.symm, hmn⟩, fun h => absurd h (by dsimp only; omega), fun _ => hmn.symm⟩⟩
    · rw [if_neg c10]
      exact ⟨beq_eq_false_iff_ne.2 c10, rfl, fun h => by cases h⟩
  rw [if_neg s5, if_neg (show ¬ x.st = 5 from fun h => s5 (hx.symm.trans h))]
  by_cases s6 : r.st = 6
  · have hz := hc.s6 s6
    rw [if_pos s6, if_pos (hx.trans s6)]
    by_cases c13 : c = 13
    · subst c13
      rw [if_pos rfl, if_neg (by decide), if_pos rfl]
      exact ⟨rfl, rfl, fun _ => ⟨rfl, fun h => absurd h (by dsimp only; omega), fun h => absurd h (by dsimp only; omega), fun h => absurd h (by dsimp only; omega), fun h => absurd h (by dsimp only; omega), fun _ => hmm⟩⟩
    · rw [if_neg c13, if_neg c13]
      cases hp : plainB c with
      | false => exact Tog.no
      | true =>
        rw [if_pos rfl]
        by_cases h64 : r.mn + 1 ≤ 64
        · rw [if_pos h64, decide_eq_true (show x.mn + 1 ≤ 64 by omega)]
          refine ⟨by unfold moreS; dsimp only; rw [hz]; rfl, rfl, fun _ => ?_⟩
          exact ⟨rfl, fun h => absurd h (by dsimp only [moreS]; omega), fun _ => by dsimp only [moreS]; omega, fun h => absurd h (by dsimp only [moreS]; omega), fun h => absurd h (by dsimp only [moreS]; omega), fun _ => by dsimp only [moreS]; omega⟩
        · rw [if_neg h64, decide_eq_false (show ¬ x.mn + 1 ≤ 64 by omega)]
          exact Tog.no
  rw [if_neg s6, if_neg (show ¬ x.st = 6 from fun h => s6 (hx.symm.trans h))]
  by_cases s7 : r.st = 7
  · have hln := hc.s1 (.inr s7)
    rw [if_pos s7, if_pos (hx.trans s7)]
    by_cases c13 : c = 13
    · subst c13
      rw [if_pos rfl, if_neg (by decide), if_pos rfl]
      exact ⟨rfl, rfl, fun _ => ⟨rfl, fun h => absurd h (by dsimp only; omega), fun h => absurd h (by dsimp only; omega), fun h => absurd h (by dsimp only; omega), fun h => absurd h (by dsimp only; omega), fun _ => hmm⟩⟩
    · rw [if_neg c13, if_neg c13]
      cases hp : plainB c with
      | false => exact Tog.no
      | true =>
        rw [if_pos rfl]
        refine ⟨by unfold moreS; dsimp only; rw [hln]; rfl, rfl, fun _ => ?_⟩
        exact ⟨hx, fun h => absurd h (by dsimp only [moreS]; omega), fun _ => by dsimp only [moreS]; omega, fun h => absurd h (by dsimp only [moreS]; omega), fun h => absurd h (by dsimp only [moreS]; omega), fun _ => hmm⟩
  rw [if_neg s7, if_neg (show ¬ x.st = 7 from fun h => s7 (hx.symm.trans h))]
  by_cases s8 : r.st = 8
  · rw [if_pos s8, if_pos (hx.trans s8)]
    by_cases c10 : c = 10
    · subst c10
      rw [if_pos rfl]
      exact ⟨rfl, rfl, fun _ => ⟨rfl, fun h => absurd h (by dsimp only; omega), fun h => absurd h (by dsimp only; omega), fun h => absurd h (by dsimp only; omega), fun _ => rfl, fun _ => hmm⟩⟩
    · rw [if_neg c10]
      exact ⟨beq_eq_false_iff_ne.2 c10, rfl, fun h => by cases h⟩
  rw [if_neg s8, if_neg (show ¬ x.st = 8 from fun h => s8 (hx.symm.trans h)), if_pos (show r.st = 9 by omega)]
  by_cases c10 : c = 10
  · subst c10
    rw [if_pos rfl]
    exact ⟨rfl, rfl, fun _ => ⟨rfl, fun h => absurd h (by dsimp only; omega), fun h => absurd h (by dsimp only; omega), fun h => absurd h (by dsimp only; omega), fun h => absurd h (by dsimp only; omega), fun _ => hmm⟩⟩
  · rw [if_neg c10]
    exact ⟨beq_eq_false_iff_ne.2 c10, rfl, fun h => by cases h⟩

/-- bytes: the two go together -/
theorem cor_run : ∀ (l : List UInt8) {r : Rd} {x : RR} (_ : RdI r) (_ : r.st ≤ 10) (_ : Cor r x) (out : List UInt8) (k : Nat), (runR x l out k).2 = (runA r l out k).2 ∧ Cor (runA r l out k).1 (runR x l out k).1
  | [], r, x, _, _, hc, out, k => ⟨rfl, hc⟩
  | c :: l, r, x, hi, hr, hc, out, k => by
    have hx := hc.st
    rw [runA, runR]
    by_cases h10 : r.st = 10
    · rw [if_pos h10, if_pos (hx.trans h10)]
      exact ⟨rfl, hc⟩
    · rw [if_neg h10, if_neg (show ¬ x.st = 10 from fun h => h10 (hx.symm.trans h))]
      by_cases h3 : r.st = 3
      · obtain ⟨d1, d2, d3⟩ := cor_data hi hc h3 c.toNat
        rw [if_pos h3, if_pos d1, if_pos d2]
        exact cor_run l (hi.data h3) (by unfold dataS; dsimp only; split <;> omega) d3 _ _
      · rw [if_neg h3]
        obtain ⟨t1, t2, t3⟩ := cor_step hi hc ⟨by omega, h3⟩ c.toNat
        by_cases hb : (takeS r c.toNat).2 = true
        · rw [if_pos hb, if_pos (t1.trans hb), if_neg (by rw [t2]; decide)]
          exact cor_run l (hi.take _ hb) (hi.take_st _ hr hb) (t3 hb) _ _
        · rw [if_neg hb, if_neg (by rw [t1]; exact hb)]
          exact ⟨rfl, Cor.broken _⟩
theorem cor_take {r : Rd} {x : RR} (hi : RdI r) (hc : Cor r x) (l : List UInt8) : (rtakeA x l).2 = (takeA r l).2 ∧ Cor (takeA r l).1 (rtakeA x l).1 := by
  have hx := hc.st
  unfold takeA rtakeA
  by_cases h : r.st = 11
  · rw [if_pos h, if_pos (hx.trans h)]
    exact ⟨rfl, hc⟩
  · rw [if_neg h, if_neg (show ¬ x.st = 11 from fun h' => h (hx.symm.trans h'))]
    have := hi.st
    exact cor_run l hi (by omega) hc [] 0
end Go.Proofs.YteneioapchhehaaDoor
