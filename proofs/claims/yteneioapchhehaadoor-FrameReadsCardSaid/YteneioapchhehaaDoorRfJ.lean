/- The reference of chapter 10: step, whole; Take. -/
import Derived.Test.YteneioapchhehaaDoorRfG
import Derived.Test.YteneioapchhehaaDoorRfI
namespace Go.Proofs.YteneioapchhehaaDoor
open Go.RowKit

/-- what a step asks -/
structure XI (x : RR) : Prop where
  st : 0 ≤ x.st ∧ x.st ≤ 9
  s0 : x.st = 0 → (0 ≤ x.dg ∧ x.dg ≤ 1000) ∧ (0 ≤ x.ln ∧ x.ln ≤ 1000)
  s1 : x.st = 1 ∨ x.st = 7 → 0 ≤ x.ln ∧ x.ln ≤ 1000
  s3 : x.st = 3 → 1 ≤ x.lf ∧ x.lf ≤ 1152921504606846976
  s6 : x.st = 6 → 0 ≤ x.mn ∧ x.mn ≤ 1000
theorem Cor.xi {r : Rd} {x : RR} (hi : RdI r) (h9 : r.st ≤ 9) (hc : Cor r x) : XI x := by
  have hx := hc.st
  have h1 := hi.st
  have h2 := hi.ln
  have h3 := hi.mn
  have h4 := hi.lf
  refine ⟨by omega, fun h => ?_, fun h => ?_, fun h => ?_, fun h => ?_⟩
  · have := hc.s0 (by omega); omega
  · have := hc.s1 (by omega); omega
  · have := (hc.lf (by omega)).1; have := hi.s3 (by omega); omega
  · have := hc.mn (by omega); omega

theorem rstep_calls {x : RR} (hx : XI x) (c : Int) (hc : 0 ≤ c ∧ c ≤ 255) (w : World) : Calls Tryd.prog 74 #[x.v, .int .u8 c] w (StP w (stepR x c)) := by
  have hst := hx.st
  unfold stepR
  by_cases s0 : x.st = 0
  · rw [if_pos s0]
    obtain ⟨hd, hl⟩ := hx.s0 s0
    by_cases c13 : c = 13
    · rw [if_pos c13]; exact rstep_0a x s0 c c13 w
    · rw [if_neg c13]
      by_cases c59 : c = 59 ∧ 0 < x.dg
      · rw [if_pos c59]; exact rstep_0b x s0 c59.2 hl c c59.1 w
      · rw [if_neg c59]
        by_cases hh : 0 ≤ hexV c
        · have h59 : ¬ c = 59 := by rintro rfl; rw [hexV_59] at hh; omega
          rw [decide_eq_true hh, Bool.true_and]
          exact rstep_0c1 x s0 hd hl c hc c13 h59 hh w
        · rw [decide_eq_false hh, Bool.false_and]
          by_cases h59 : c = 59
          · exact rstep_0c3 x s0 hd hl c hc c13 h59 (fun h => c59 ⟨h59, h⟩) hh w
          · exact rstep_0c2 x s0 hd hl c hc c13 h59 hh w
  rw [if_neg s0]
  by_cases s1 : x.st = 1
  · rw [if_pos s1]
    by_cases c13 : c = 13
    · rw [if_pos c13]; exact rstep_1a x s1 c c13 w
    · rw [if_neg c13]; exact rstep_1b x s1 (hx.s1 (.inl s1)) c c13 w
  rw [if_neg s1]
  by_cases s2 : x.st = 2
  · rw [if_pos s2]
    by_cases hl : x.lf = 0
    · rw [if_pos hl]; exact rstep_2a x s2 hl c w
    · rw [if_neg hl]; exact rstep_2b x s2 hl c w
  rw [if_neg s2]
  by_cases s3 : x.st = 3
  · have h3 := hx.s3 s3
    rw [if_pos s3]
    by_cases hl : x.lf - 1 = 0
    · rw [if_pos hl, hl]; exact rstep_3a x s3 (by omega) c w
    · rw [if_neg hl]; exact rstep_3b x s3 (by omega) c w
  rw [if_neg s3]
  by_cases s4 : x.st = 4
  · rw [if_pos s4]; exact rstep_4 x s4 c w
  rw [if_neg s4]
  by_cases s5 : x.st = 5
  · rw [if_pos s5]; exact rstep_5 x s5 c w
  rw [if_neg s5]
  by_cases s6 : x.st = 6
  · rw [if_pos s6]
    by_cases c13 : c = 13
    · rw [if_pos c13]; exact rstep_6a x s6 c c13 w
    · rw [if_neg c13]; exact rstep_6b x s6 (hx.s6 s6) c c13 w
  rw [if_neg s6]
  by_cases s7 : x.st = 7
  · rw [if_pos s7]
    by_cases c13 : c = 13
    · rw [if_pos c13]; exact rstep_7a x s7 c c13 w
    · rw [if_neg c13]; exact rstep_7b x s7 (hx.s1 (.inr s7)) c c13 w
  rw [if_neg s7]
  by_cases s8 : x.st = 8
  · rw [if_pos s8]; exact rstep_8 x s8 c w
  rw [if_neg s8]
  exact rstep_9 x (by omega) c w
end Go.Proofs.YteneioapchhehaaDoor
