/- The body reader's Take, whatever slice comes. -/
import Derived.Test.YteneioapchhehaaDoorMc
namespace Go.Proofs.YteneioapchhehaaDoor
open Go.RowKit

theorem Bs.fch {w w' : World} {ao : Option Addr} {l : List UInt8} {g gc : Nat} {r : Fr} (h : Bs w ao l) (hf : FrAt w g gc r) (hc : Ch (fun k => k = g ∨ k = gc) w w') : Bs w' ao l :=
  h.ch hc (fun b off h1 h2 hk => by
    rcases hk with rfl | rfl
    · exact fr_ne (h1 ▸ h) h2 hf rfl
    · exact rd_ne (h1 ▸ h) h2 hf.2.2 rfl)

theorem fTake_any (w : World) (g gc : Nat) (r : Fr) (hi : FrI r) (h : FrAt w g gc r) (hE : ErrVar 0 w) (hg : 0 < gc) (ao : Option Addr) (l : List UInt8) (hl : l.length ≤ 1099511627776) (c : Nat) (hc : l.length ≤ c) (hcn : ao = none → c = 0) (hb : Bs w ao l) :
    Calls Tryd.prog 24 #[.pointer (some ⟨g, 0, none⟩), .slice ao l.length c] w (fTkP w g gc (frTake r l)) :=
  fTake_calls w g gc r hi h hE hg ao l hl c hc hcn hb (fun b off h1 h2 hk => by
    subst hk
    exact fr_ne (h1 ▸ hb) h2 h rfl)

theorem frTake_len {r : Fr} (hi : FrI r) (l : List UInt8) : (frTake r l).2.1.length ≤ l.length ∧ (frTake r l).2.2.1 ≤ l.length := by
  unfold frTake
  split
  · simp
  · split
    · exact takeA_len hi.ch l
    · split
      · simp; omega
      · simp
end Go.Proofs.YteneioapchhehaaDoor
