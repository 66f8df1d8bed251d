/- ChunkPuts: the law's walk. -/
import Derived.Test.YtiaafndkbcpbdaaDoorRfB
namespace Go.Proofs.YtiaafndkbcpbdaaDoor
open Go.RowKit

def wholeA (l : List UInt8) (n : Int) : List UInt8 × Int := if n < 1 then ([], 1) else (wholeL l n.toNat, 0)
theorem Whole_any (w : World) (hT : Tz16 w) (ao : Option Addr) (l : List UInt8) (c : Nat) (hl : l.length ≤ 1048576) (hcap : l.length ≤ c) (hb : Bs w ao l) (n : Int) (hn : (Lit.int .i64 n).wf = true) :
    Calls Tryd.prog 17 #[.slice ao l.length c, .int .i64 n] w fun e w' => ∃ a' c', e = .returned (.tuple #[.slice a' (wholeA l n).1.length c', .int .i64 (wholeA l n).2]) ∧ Bs w' a' (wholeA l n).1 ∧ Below w.heap.size w w' := by
  have hn2 : -9223372036854775808 ≤ n ∧ n ≤ 9223372036854775807 := by
    have a1 : IntKind.i64.min = -9223372036854775808 := rfl
    have a2 : IntKind.i64.max = 9223372036854775807 := rfl
    simp [Lit.wf, a1, a2] at hn
    exact hn
  unfold wholeA
  by_cases h1 : n < 1
  · rw [if_pos h1]
    refine (Whole_err w _ n h1).mono ?_
    rintro e w' ⟨rfl, rfl⟩
    exact ⟨none, 0, rfl, Bs.nil _, Below.refl _ _⟩
  · rw [if_neg h1]
    obtain ⟨m, rfl⟩ : ∃ m : Nat, n = m := ⟨n.toNat, by omega⟩
    refine (Whole_calls w hT ao l c hl hcap hb m (by omega) (by omega)).mono ?_
    rintro e w' ⟨v', rfl, ho, hb2⟩
    obtain ⟨a', c', rfl, hs, -, -, -⟩ := ho.bs'
    exact ⟨a', c', rfl, hs, hb2⟩
theorem rWhole_any (w : World) (ao : Option Addr) (l : List UInt8) (c : Nat) (hl : l.length ≤ 1048576) (hcap : l.length ≤ c) (hb : Bs w ao l) (hao : ao = none → c = 0) (n : Int) (hn : (Lit.int .i64 n).wf = true) :
    Calls Tryd.prog 18 #[.slice ao l.length c, .int .i64 n] w fun e w' => ∃ a' c', e = .returned (.tuple #[.slice a' (wholeA l n).1.length c', .int .i64 (wholeA l n).2]) ∧ Bs w' a' (wholeA l n).1 ∧ Below w.heap.size w w' := by
  have hn2 : -9223372036854775808 ≤ n ∧ n ≤ 9223372036854775807 := by
    have a1 : IntKind.i64.min = -9223372036854775808 := rfl
    have a2 : IntKind.i64.max = 9223372036854775807 := rfl
    simp [Lit.wf, a1, a2] at hn
    exact hn
  unfold wholeA
  by_cases h1 : n < 1
  · rw [if_pos h1]
    refine (rWhole_err w _ n h1).mono ?_
    rintro e w' ⟨rfl, rfl⟩
    exact ⟨none, 0, rfl, Bs.nil _, Below.refl _ _⟩
  · rw [if_neg h1]
    obtain ⟨m, rfl⟩ : ∃ m : Nat, n = m := ⟨n.toNat, by omega⟩
    refine (rWhole_calls w ao l c hl hcap hb hao m (by omega) (by omega)).mono ?_
    rintro e w' ⟨v', rfl, ho, hb2⟩
    obtain ⟨a', c', rfl, hs, -, -, -⟩ := ho.bs'
    exact ⟨a', c', rfl, hs, hb2⟩

set_option maxHeartbeats 1000000 in
theorem Puts_big (w : World) (hG : Gv w) (ao : Option Addr) (l c : Nat) (k : Int) (hl : 1000 < l) :
    Calls Tryd.prog 5 #[.slice ao l c, .int .i64 k] w fun e w' => e = .returned (.bool true) ∧ Below w.heap.size w w' := by
  have HG := Lib.hid hG
  have t1 : decide ((1000 : Int) < (l : Int)) = true := decide_eq_true (by omega)
  clear hG hl
  go_enter Tryd.func5, Tryd.ntmps5
  go_wp2_with fail
  refine (wakes_calls _ HG.out).mono ?_
  rintro e w1 ⟨rfl, hb1⟩
  have HB1 := Lib.hid hb1
  clear hb1
  go_wp2_with fail
  go_ret
  exact ⟨rfl, HB1.out⟩

set_option maxHeartbeats 2000000 in
set_option maxRecDepth 100000 in
theorem Puts_calls (w : World) (hG : Gv w) (ao : Option Addr) (l : List UInt8) (c : Nat) (hlc : l.length ≤ c) (h1 : Bs w ao l) (hao : ao = none → c = 0) (n : Int) (hn : (Lit.int .i64 n).wf = true) :
    Calls Tryd.prog 5 #[.slice ao l.length c, .int .i64 n] w fun e w' => e = .returned (.bool true) ∧ Below w.heap.size w w' := by
  by_cases hl1 : 1000 < l.length
  · exact Puts_big w hG ao _ c n hl1
  have t1 : decide ((1000 : Int) < (l.length : Int)) = false := decide_eq_false (by omega)
  have HL : Hid (l.length ≤ 1000) := Lib.hid (by omega)
  have HC := Lib.hid hlc
  have H1 := Lib.hid h1
  have HG := Lib.hid hG
  have HA := Lib.hid hao
  have HN := Lib.hid hn
  obtain ⟨⟨L, eN⟩, hQ⟩ : ∃ Q, wholeA l n = Q := ⟨_, rfl⟩
  have HQ := Lib.hid hQ
  clear h1 hG hl1 hlc hao hn hQ
  go_enter Tryd.func5, Tryd.ntmps5
  go_wp2_with fail
  refine (wakes_calls _ HG.out).mono ?_
  rintro e w1 ⟨rfl, hb1⟩
  have HB1 := Lib.hid hb1
  clear hb1
  go_wp2_with fail
  refine (Whole_any w1 (HG.out.below HB1.out).tz ao l c (Nat.le_trans HL.out (by decide)) HC.out (H1.out.below HB1.out) n HN.out).mono ?_
  rw [HQ.out]
  rintro e w2 ⟨a2, c2, rfl, hs2, hb2⟩
  have HB2 := Lib.hid (HB1.out.trans (hb2.mono HB1.out.size))
  have HS2 := Lib.hid hs2
  clear hs2 hb2
  go_wp2_with fail
  refine (rWhole_any w2 ao l c (Nat.le_trans HL.out (by decide)) HC.out (H1.out.below HB2.out) HA.out n HN.out).mono ?_
  rw [HQ.out]
  rintro e w3 ⟨a3, c3, rfl, hs3, hb3⟩
  have HB3 := Lib.hid (HB2.out.trans (hb3.mono HB2.out.size))
  have HS2 := Lib.hid (HS2.out.below hb3)
  have HS3 := Lib.hid hs3
  clear hs3 hb3
  go_wp2_with fail
  refine (Put_calls w3 (HG.out.below HB3.out).tz ao l c (Nat.le_trans HL.out (by decide)) (H1.out.below HB3.out)).mono ?_
  rintro e w4 ⟨v4, rfl, ho4, hb4⟩
  obtain ⟨a4, c4, rfl, hs4, -, -, -⟩ := ho4.bs'
  have HB4 := Lib.hid (HB3.out.trans (hb4.mono HB3.out.size))
  have HS2 := Lib.hid (HS2.out.below hb4)
  have HS3 := Lib.hid (HS3.out.below hb4)
  have HS4 := Lib.hid hs4
  clear hs4 hb4 ho4
  go_wp2_with fail
  refine (rPut_calls w4 ao l c (Nat.le_trans HL.out (by decide)) (H1.out.below HB4.out) HA.out).mono ?_
  rintro e w5 ⟨v5, rfl, ho5, hb5⟩
  obtain ⟨a5, c5, rfl, hs5, -, -, -⟩ := ho5.bs'
  have HB5 := Lib.hid (HB4.out.trans (hb5.mono HB4.out.size))
  have HS2 := Lib.hid (HS2.out.below hb5)
  have HS3 := Lib.hid (HS3.out.below hb5)
  have HS4 := Lib.hid (HS4.out.below hb5)
  have HS5 := Lib.hid hs5
  clear hs5 hb5 ho5
  go_wp2_with (go_at_call 14; with_reducible refine (same_calls _ _ _ _ _ _ _ HS4.out HS5.out).mono ?_; rintro e w' ⟨rfl, rfl⟩)
  refine (Last_calls w5).mono ?_
  rintro e w6 ⟨v6, rfl, ho6, hb6⟩
  obtain ⟨a6, c6, rfl, hs6, -, -, -⟩ := ho6.bs'
  have HB6 := Lib.hid (HB5.out.trans (hb6.mono HB5.out.size))
  have HS2 := Lib.hid (HS2.out.below hb6)
  have HS3 := Lib.hid (HS3.out.below hb6)
  have HS6 := Lib.hid hs6
  clear hs6 hb6 ho6
  go_wp2_with fail
  refine (rLast_calls w6).mono ?_
  rintro e w7 ⟨v7, rfl, ho7, hb7⟩
  obtain ⟨a7, c7, rfl, hs7, -, -, -⟩ := ho7.bs'
  have HB7 := Lib.hid (HB6.out.trans (hb7.mono HB6.out.size))
  have HS2 := Lib.hid (HS2.out.below hb7)
  have HS3 := Lib.hid (HS3.out.below hb7)
  have HS6 := Lib.hid (HS6.out.below hb7)
  have HS7 := Lib.hid hs7
  clear hs7 hb7 ho7
  have hl5 : lastL.length = 5 := rfl
  go_wp2_with (first
    | (go_at_call 14; refine (same_calls w7 a6 a7 lastL lastL c6 c7 HS6.out HS7.out).mono ?_; rintro e w' ⟨rfl, rfl⟩)
    | (go_at_call 14; refine (same_calls w7 a2 a3 L L c2 c3 HS2.out HS3.out).mono ?_; rintro e w' ⟨rfl, rfl⟩))
  go_ret
  exact ⟨rfl, HB7.out⟩
end Go.Proofs.YtiaafndkbcpbdaaDoor
