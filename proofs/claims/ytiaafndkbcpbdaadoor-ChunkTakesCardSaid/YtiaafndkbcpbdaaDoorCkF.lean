/- Package chunk: a reader's Take, byte by byte, in plain Lean: what is so of a reader at every time, and the loop. -/
import Derived.Test.YtiaafndkbcpbdaaDoorCkE
namespace Go.Proofs.YtiaafndkbcpbdaaDoor
open Go.RowKit

/-- a byte of a chunk -/
def dataS (r : Rd) : Rd := { r with lf := r.lf - 1, st := if r.lf - 1 = 0 then 4 else 3 }

/-- bytes, one behind the other -/
def runA : Rd → List UInt8 → List UInt8 → Nat → Rd × List UInt8 × Nat × Bool
  | r, [], out, k => (r, out, k, true)
  | r, c :: l, out, k =>
    if r.st = 10 then (r, out, k, true)
    else if r.st = 3 then runA (dataS r) l (out ++ [c]) (k + 1)
    else if (takeS r c.toNat).2 = true then runA (takeS r c.toNat).1 l out (k + 1)
    else ({ (takeS r c.toNat).1 with st := 11 }, [], k, false)

/-- what is so of a reader at every time -/
structure RdI (r : Rd) : Prop where
  st : 0 ≤ r.st ∧ r.st ≤ 11
  ln : 0 ≤ r.ln ∧ r.ln ≤ 250
  mn : 0 ≤ r.mn ∧ r.mn ≤ 65
  lf : 0 ≤ r.lf ∧ r.lf < 1152921504606846976
  s0 : r.st = 0 → r.ln ≤ 15 ∧ r.lf < 16 ^ r.ln.toNat
  s3 : r.st = 3 → 1 ≤ r.lf
  s4 : r.st = 4 ∨ r.st = 5 → r.lf = 0
  sl : r.st ≤ 10 → r.ln ≤ 200
  sm : r.st ≤ 10 → r.mn ≤ 64

theorem pow16_lt (n : Nat) (h : n < 15) : (16 : Int) ^ n ≤ 72057594037927936 := by
  have h1 : (16 : Nat) ^ n ≤ 16 ^ 14 := Nat.pow_le_pow_right (by omega) (by omega)
  have h2 : ((16 ^ n : Nat) : Int) ≤ ((16 ^ 14 : Nat) : Int) := Int.ofNat_le.2 h1
  simpa using h2

theorem RdI.ok {r : Rd} (h : RdI r) : RdOk r :=
  ⟨h.st, h.ln, h.mn, h.lf, fun h0 h15 => by
    have := (h.s0 h0).2
    have h1 := pow16_lt r.ln.toNat (by have := h.ln; omega)
    omega⟩

theorem hexV_lt (c : Int) : hexV c ≤ 15 := by
  unfold hexV
  split
  · omega
  · split
    · omega
    · split <;> omega

theorem RdI.zero : RdI ⟨0, 0, 0, 0⟩ := by
  constructor <;> simp

theorem pow16_succ (n : Nat) : (16 : Int) ^ (n + 1) = 16 ^ n * 16 := Int.pow_succ 16 n

theorem RdI.expect {r : Rd} (h : RdI r) (c want next : Int) (hn : 0 ≤ next ∧ next ≤ 10) (h0 : next = 0 → r.lf = 0) (h3 : next = 3 → 1 ≤ r.lf) (h4 : next = 4 ∨ next = 5 → r.lf = 0) (hs : r.st ≤ 10) : RdI (expectS r c want next).1 := by
  unfold expectS
  split
  · have hm := h.sm hs
    refine ⟨by dsimp only; omega, by dsimp only; omega, h.mn, h.lf, fun hx => ?_, h3, h4, fun _ => by dsimp only; omega, fun _ => hm⟩
    dsimp only at hx ⊢
    have := h0 hx
    simp [this]
  · exact h

theorem RdI.more {r : Rd} (h : RdI r) (hs : r.st = 1 ∨ r.st = 7) (hb : (moreS r).2 = true) : RdI (moreS r).1 := by
  unfold moreS at hb ⊢
  simp only [decide_eq_true_eq] at hb
  have hl := h.ln
  have hm := h.sm (by omega)
  exact ⟨h.st, by dsimp only; omega, h.mn, h.lf, fun hx => absurd hx (by dsimp only; omega), h.s3, h.s4, fun _ => by dsimp only; omega, fun _ => hm⟩

/-- a byte that may come leaves a reader right -/
theorem RdI.take {r : Rd} (h : RdI r) (c : Int) (hb : (takeS r c).2 = true) : RdI (takeS r c).1 := by
  have hst := h.st
  unfold takeS at hb ⊢
  split
  · rename_i s0
    rw [if_pos s0] at hb
    have hs0 := h.s0 s0
    have hln := h.ln
    split
    · rename_i hx
      have h15 := hexV_lt c
      have hp : (16 : Int) ^ (r.ln + 1).toNat = 16 ^ r.ln.toNat * 16 := by
        rw [show (r.ln + 1).toNat = r.ln.toNat + 1 from by omega]; exact pow16_succ _
      have hq := pow16_lt r.ln.toNat (by omega)
      have hlf := h.lf
      refine ⟨h.st, by dsimp only; omega, h.mn, ⟨by dsimp only; omega, by dsimp only; omega⟩, fun _ => ⟨by dsimp only; omega, by dsimp only; rw [hp]; omega⟩, fun hx => absurd hx (by dsimp only; omega), fun hx => absurd hx (by dsimp only; omega), fun _ => by dsimp only; omega, fun hx => h.sm hx⟩
    · rename_i hx
      rw [if_neg hx] at hb
      split
      · rename_i h0; rw [if_pos h0] at hb; cases hb
      · rename_i h0
        rw [if_neg h0] at hb
        split
        · rename_i h59
          rw [if_pos h59] at hb
          refine RdI.more (r := { r with st := 1 }) ?_ (.inl rfl) hb
          exact ⟨by dsimp only; omega, h.ln, h.mn, h.lf, fun hx => absurd hx (by dsimp only; omega), fun hx => absurd hx (by dsimp only; omega), fun hx => absurd hx (by dsimp only; omega), fun _ => h.sl (by omega), fun _ => h.sm (by omega)⟩
        · exact h.expect c 13 2 (by omega) (by omega) (by omega) (by omega) (by omega)
  rename_i s0
  rw [if_neg s0] at hb
  split
  · rename_i s1
    rw [if_pos s1] at hb
    split
    · rename_i hp; rw [if_pos hp] at hb; exact h.more (.inl s1) hb
    · exact h.expect c 13 2 (by omega) (by omega) (by omega) (by omega) (by omega)
  rename_i s1
  rw [if_neg s1] at hb
  split
  · rename_i s2
    have hlf := h.lf
    refine h.expect c 10 _ ?_ ?_ ?_ ?_ (by omega) <;> unfold sizedN <;> split <;> omega
  rename_i s2
  rw [if_neg s2] at hb
  split
  · rename_i s4; exact h.expect c 13 5 (by omega) (by omega) (by omega) (fun _ => h.s4 (.inl s4)) (by omega)
  rename_i s4
  rw [if_neg s4] at hb
  split
  · rename_i s5; exact h.expect c 10 0 (by omega) (fun _ => h.s4 (.inr s5)) (by omega) (by omega) (by omega)
  rename_i s5
  rw [if_neg s5] at hb
  split
  · rename_i s6
    rw [if_pos s6] at hb
    split
    · rename_i hp
      rw [if_pos hp] at hb
      split
      · rename_i h64
        rw [if_pos h64] at hb
        refine RdI.more (r := { r with st := 7, mn := r.mn + 1 }) ?_ (.inr rfl) hb
        have hm := h.mn
        exact ⟨by dsimp only; omega, h.ln, by dsimp only; omega, h.lf, fun hx => absurd hx (by dsimp only; omega), fun hx => absurd hx (by dsimp only; omega), fun hx => absurd hx (by dsimp only; omega), fun _ => h.sl (by omega), fun _ => h64⟩
      · rename_i h64; rw [if_neg h64] at hb; cases hb
    · exact h.expect c 13 9 (by omega) (by omega) (by omega) (by omega) (by omega)
  rename_i s6
  rw [if_neg s6] at hb
  split
  · rename_i s7
    rw [if_pos s7] at hb
    split
    · rename_i hp; rw [if_pos hp] at hb; exact h.more (.inr s7) hb
    · exact h.expect c 13 8 (by omega) (by omega) (by omega) (by omega) (by omega)
  rename_i s7
  rw [if_neg s7] at hb
  split
  · exact h.expect c 10 6 (by omega) (by omega) (by omega) (by omega) (by omega)
  rename_i s8
  rw [if_neg s8] at hb
  split
  · exact h.expect c 10 10 (by omega) (by omega) (by omega) (by omega) (by omega)
  rename_i s9
  rw [if_neg s9] at hb
  cases hb

/-- bounds, whatever comes -/
def Bd (x : Rd × Bool) : Prop := x.1.ln ≤ 250 ∧ 0 ≤ x.1.ln ∧ 0 ≤ x.1.mn ∧ x.1.mn ≤ 65 ∧ 0 ≤ x.1.lf ∧ x.1.lf < 1152921504606846976
theorem Bd.ite {p : Prop} [Decidable p] {a b : Rd × Bool} (ha : p → Bd a) (hb : ¬ p → Bd b) : Bd (if p then a else b) := by
  by_cases h : p
  · rw [if_pos h]; exact ha h
  · rw [if_neg h]; exact hb h
theorem Bd.expect {r : Rd} (h : RdI r) (a b n : Int) : Bd (expectS r a b n) := by
  have h1 := h.ln
  have h2 := h.mn
  have h3 := h.lf
  exact Bd.ite (fun _ => ⟨by dsimp only; omega, by dsimp only; omega, h2.1, h2.2, h3.1, h3.2⟩) (fun _ => ⟨h1.2, h1.1, h2.1, h2.2, h3.1, h3.2⟩)
/-- a byte that may not come: the reader is broken -/
theorem takeS_keeps (r : Rd) (c : Int) (h : RdI r) : Bd (takeS r c) := by
  have h1 := h.ln
  have h2 := h.mn
  have h3 := h.lf
  have hl := h.sl
  have hm := h.sm
  have hh := hexV_lt c
  unfold takeS
  refine Bd.ite (fun s0 => Bd.ite (fun hx => ?_) (fun hx => Bd.ite (fun _ => ?_) (fun _ => Bd.ite (fun _ => ?_) (fun _ => Bd.expect h c 13 2)))) (fun s0 => ?_)
  · have hs0 := h.s0 s0
    have hq := pow16_lt r.ln.toNat (by omega)
    exact ⟨by dsimp only; omega, by dsimp only; omega, h2.1, h2.2, by dsimp only; omega, by dsimp only; omega⟩
  · exact ⟨h1.2, h1.1, h2.1, h2.2, h3.1, h3.2⟩
  · exact ⟨by dsimp only [moreS]; omega, by dsimp only [moreS]; omega, h2.1, h2.2, h3.1, h3.2⟩
  refine Bd.ite (fun s1 => Bd.ite (fun _ => ?_) (fun _ => Bd.expect h c 13 2)) (fun s1 => ?_)
  · exact ⟨by dsimp only [moreS]; omega, by dsimp only [moreS]; omega, h2.1, h2.2, h3.1, h3.2⟩
  refine Bd.ite (fun _ => Bd.expect h _ _ _) (fun _ => Bd.ite (fun _ => Bd.expect h _ _ _) (fun _ => Bd.ite (fun _ => Bd.expect h _ _ _) (fun _ => ?_)))
  refine Bd.ite (fun s6 => Bd.ite (fun _ => Bd.ite (fun _ => ?_) (fun _ => ?_)) (fun _ => Bd.expect h _ _ _)) (fun s6 => ?_)
  · exact ⟨by dsimp only [moreS]; omega, by dsimp only [moreS]; omega, by dsimp only [moreS]; omega, by dsimp only [moreS]; omega, h3.1, h3.2⟩
  · exact ⟨by dsimp only; omega, by dsimp only; omega, by dsimp only; omega, by dsimp only; omega, h3.1, h3.2⟩
  refine Bd.ite (fun s7 => Bd.ite (fun _ => ?_) (fun _ => Bd.expect h _ _ _)) (fun s7 => Bd.ite (fun _ => Bd.expect h _ _ _) (fun _ => Bd.ite (fun _ => Bd.expect h _ _ _) (fun _ => ?_)))
  · exact ⟨by dsimp only [moreS]; omega, by dsimp only [moreS]; omega, h2.1, h2.2, h3.1, h3.2⟩
  · exact ⟨h1.2, h1.1, h2.1, h2.2, h3.1, h3.2⟩

theorem RdI.broken {r : Rd} (h : RdI r) (c : Int) : RdI { (takeS r c).1 with st := 11 } := by
  obtain ⟨a, b, c', d, e, f⟩ := takeS_keeps r c h
  exact ⟨by dsimp only; omega, ⟨b, a⟩, ⟨c', d⟩, ⟨e, f⟩, fun hx => absurd hx (by dsimp only; omega), fun hx => absurd hx (by dsimp only; omega), fun hx => absurd hx (by dsimp only; omega), fun hx => absurd hx (by dsimp only; omega), fun hx => absurd hx (by dsimp only; omega)⟩

theorem RdI.data {r : Rd} (h : RdI r) (hs : r.st = 3) : RdI (dataS r) := by
  have h3 := h.s3 hs
  have hl := h.sl (by omega)
  have hm := h.sm (by omega)
  have hlf := h.lf
  unfold dataS
  split
  · exact ⟨by dsimp only; omega, h.ln, h.mn, by dsimp only; omega, fun hx => absurd hx (by dsimp only; omega), fun hx => absurd hx (by dsimp only; omega), fun _ => by dsimp only; omega, fun _ => hl, fun _ => hm⟩
  · exact ⟨by dsimp only; omega, h.ln, h.mn, by dsimp only; omega, fun hx => absurd hx (by dsimp only; omega), fun _ => by dsimp only; omega, fun hx => absurd hx (by dsimp only; omega), fun _ => hl, fun _ => hm⟩

/-- so many bytes of a chunk at once -/
theorem runA_data (n : Nat) : ∀ (r : Rd) (l out : List UInt8) (k : Nat), r.st = 3 → 1 ≤ n → (n : Int) ≤ r.lf → n ≤ l.length →
    runA r l out k = runA { r with lf := r.lf - n, st := if r.lf - n = 0 then 4 else 3 } (l.drop n) (out ++ l.take n) (k + n) := by
  induction n with
  | zero => intro r l out k _ h; omega
  | succ n ih =>
    intro r l out k hs _ hn hl
    cases l with
    | nil => simp at hl
    | cons c l =>
      simp only [List.length_cons] at hl
      rw [runA, if_neg (by omega), if_pos hs]
      by_cases h0 : n = 0
      · subst h0
        simp [dataS]
      · have hne : ¬ (r.lf - 1 = 0) := by omega
        rw [ih (dataS r) l (out ++ [c]) (k + 1) (by unfold dataS; rw [if_neg hne]) (by omega) (by unfold dataS; dsimp only; omega) (by omega)]
        unfold dataS
        simp only [if_neg hne, List.drop_succ_cons, List.take_succ_cons, List.append_assoc, List.singleton_append]
        rw [show r.lf - 1 - (n : Int) = r.lf - ((n + 1 : Nat) : Int) from by omega, show k + 1 + n = k + (n + 1) from by omega]

end Go.Proofs.YtiaafndkbcpbdaaDoor
