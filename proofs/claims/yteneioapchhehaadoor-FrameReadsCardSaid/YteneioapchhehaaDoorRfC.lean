/- The reference of chapter 10: a reader's small functions. -/
import Derived.Test.YteneioapchhehaaDoorMc
import Derived.Test.YteneioapchhehaaDoorMa
import Derived.RegionTactic
import Derived.ChangeAlike
import Derived.StillTailTactics
import Derived.Handy
namespace Go.Proofs.YteneioapchhehaaDoor
open Go.RowKit

theorem wp_tail {P : Program} {w : World} {id : Nat} {Q : Exit → Act → World → Prop} {a : Act} {l : List Oper} (n : Nat) (hm : P.follows .mixedOrders = true) (hB : Region.lexTailB .any l.toArray n = true)
    (h : wpStill P l.toArray w.drew (fun a' => wpList P l.toArray Q (l.drop n) a' w.drew) (l.take n) a) : (Code.region id l.toArray true).wp P Q a w :=
  wp_region_still_tail n hm hB h

/-- the reference's reader -/
structure RR where
  st : Int
  dg : Int
  ln : Int
  mn : Int
  lf : Int
def RR.v (x : RR) : Value := .agg #[.int .i64 x.st, .int .i64 x.dg, .int .i64 x.ln, .int .i64 x.mn, .int .i64 x.lf]

set_option maxHeartbeats 400000 in
theorem rDone_calls (w : World) (x : RR) : Calls Tryd.prog 38 #[x.v] w fun e w' => e = .returned (.bool (x.st == 10)) ∧ Below w.heap.size w w' := by
  obtain ⟨st, dg, ln, mn, lf⟩ := x
  unfold RR.v
  go_enter Tryd.func38, Tryd.ntmps38
  go_wp2
  go_ret
  exact ⟨rfl, (Below.refl _ _).alloc (Nat.le_refl _) _⟩

set_option maxHeartbeats 400000 in
theorem rplain_calls (c : Int) (w : World) : Calls Tryd.prog 104 #[.int .u8 c] w fun e w' => e = .returned (.bool (plainB c)) ∧ w = w' := by
  by_cases h1 : 32 ≤ c <;> by_cases h2 : c ≤ 126 <;> by_cases h3 : (c == 9) = true
  all_goals
    go_enter Tryd.func104, Tryd.ntmps104
    go_wp2
    go_ret
    exact ⟨by simp [plainB, *], rfl⟩

set_option maxHeartbeats 400000 in
theorem rhex_calls (c : Int) (hc : 0 ≤ c ∧ c ≤ 255) (w : World) : Calls Tryd.prog 92 #[.int .u8 c] w fun e w' => e = .returned (.int .i64 (hexV c)) ∧ w = w' := by
  by_cases h1 : 48 ≤ c <;> by_cases h2 : c ≤ 57 <;> by_cases h3 : 97 ≤ c <;> by_cases h4 : c ≤ 102 <;> by_cases h5 : 65 ≤ c <;> by_cases h6 : c ≤ 70
  all_goals first
    | (exfalso; omega)
    | (go_enter Tryd.func92, Tryd.ntmps92
       go_wp2
       go_ret
       exact ⟨ret1 (iEq (by unfold hexV; (repeat' split) <;> omega)), rfl⟩)

set_option maxHeartbeats 1000000 in
set_option maxRecDepth 100000 in
theorem rtext_calls (x : RR) (hx : 0 ≤ x.ln ∧ x.ln ≤ 1000) (c : Int) (w : World) : Calls Tryd.prog 93 #[x.v, .int .u8 c] w fun e w' =>
    e = .returned (.tuple #[RR.v { x with ln := x.ln + 1 }, .bool (plainB c && decide (x.ln + 1 ≤ 200))]) ∧ Below w.heap.size w w' := by
  obtain ⟨st, dg, ln, mn, lf⟩ := x
  have hw : wrap64 (ln + 1) = ln + 1 := IntWalk.wrap64_in _ (by dsimp only at hx; omega)
  unfold RR.v
  dsimp only
  have hbel : ∀ o o' : Obj, Below w.heap.size w ((w.alloc o).alloc o').drew := fun o o' => Below.drew (((Below.refl _ w).alloc (Nat.le_refl _) o).alloc (by simp) o')
  obtain ⟨b, hp⟩ : ∃ b, plainB c = b := ⟨_, rfl⟩
  have H : ∀ w, Calls Tryd.prog 104 #[.int .u8 c] w fun e w' => e = .returned (.bool b) ∧ w = w' := fun w => hp ▸ rplain_calls c w
  rw [hp]
  have HH := Lib.hid H
  clear H hp
  cases b
  · go_enter Tryd.func93, Tryd.ntmps93
    go_wp2
    (first | go_region_with (go_at_call 104; refine (HH.out _).mono ?_; rintro e w' ⟨rfl, rfl⟩) | fail)
    all_goals (go_wp2; go_returns)
    all_goals exact ⟨rfl, hbel _ _⟩
  · go_enter Tryd.func93, Tryd.ntmps93
    go_wp2
    (first | go_region_with (go_at_call 104; refine (HH.out _).mono ?_; rintro e w' ⟨rfl, rfl⟩) | fail)
    all_goals (go_wp2; go_returns)
    all_goals exact ⟨rfl, hbel _ _⟩
end Go.Proofs.YteneioapchhehaaDoor
