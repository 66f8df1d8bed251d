/- A part of the proofs over package chunk. -/
import Derived.Test.YtiaafndkbcpbdaaDoorBase
namespace Go.Proofs.YtiaafndkbcpbdaaDoor
open Go.RowKit

def plainB (c : Int) : Bool := (decide (32 ≤ c) && decide (c ≤ 126)) || c == 9

set_option maxHeartbeats 400000 in
theorem plain_calls (c : Int) (w : World) : Calls Tryd.prog 31 #[.int .u8 c] w fun e w' => e = .returned (.bool (plainB c)) ∧ w = w' := by
  by_cases h1 : 32 ≤ c <;> by_cases h2 : c ≤ 126 <;> by_cases h3 : (c == 9) = true
  all_goals
    go_enter Tryd.func31, Tryd.ntmps31
    go_wp2
    go_ret
    exact ⟨by simp [plainB, *], rfl⟩
end Go.Proofs.YtiaafndkbcpbdaaDoor
