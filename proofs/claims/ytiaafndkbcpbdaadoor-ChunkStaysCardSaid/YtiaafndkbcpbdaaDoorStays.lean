/- ChunkStays: the law's walk. -/
import Derived.Test.YtiaafndkbcpbdaaDoorCkM
namespace Go.Proofs.YtiaafndkbcpbdaaDoor
open Go.RowKit

theorem stays_plain (b m : List UInt8) :
    let q := takeA ⟨0, 0, 0, 0⟩ b
    let s := takeA q.1 m
    (q.2.2.2 = false → s = (q.1, [], 0, false) ∧ q.1.st = 11) ∧ (q.2.2.2 = true → q.1.st = 10 → s = (q.1, [], 0, true)) := by
  dsimp only
  refine ⟨fun h => ?_, fun _ h => takeA_done h m⟩
  have := (takeA_er RdI.zero b h).1
  exact ⟨takeA_broken this m, this⟩


set_option maxHeartbeats 1000000 in
theorem Stays_big (w : World) (hG : Gv w) (ao bo : Option Addr) (l m c d : Nat) (hl : 1000 < l ∨ 1000 < m) :
    Calls Tryd.prog 7 #[.slice ao l c, .slice bo m d] w fun e w' => e = .returned (.bool true) ∧ Below w.heap.size w w' := by
  have HG := Lib.hid hG
  clear hG
  by_cases hl1 : 1000 < l
  · have t1 : decide ((1000 : Int) < (l : Int)) = true := decide_eq_true (by omega)
    clear hl
    go_enter Tryd.func7, Tryd.ntmps7
    go_wp2_with fail
    refine (wakes_calls _ HG.out).mono ?_
    rintro e w1 ⟨rfl, hb1⟩
    have HB1 := Lib.hid hb1
    clear hb1
    go_wp2_with fail
    go_ret
    exact ⟨rfl, HB1.out⟩
  · have t1 : decide ((1000 : Int) < (l : Int)) = false := decide_eq_false (by omega)
    have t2 : decide ((1000 : Int) < (m : Int)) = true := decide_eq_true (by omega)
    clear hl hl1
    go_enter Tryd.func7, Tryd.ntmps7
    go_wp2_with fail
    refine (wakes_calls _ HG.out).mono ?_
    rintro e w1 ⟨rfl, hb1⟩
    have HB1 := Lib.hid hb1
    clear hb1
    go_wp2_with fail
    go_ret
    exact ⟨rfl, HB1.out⟩

theorem stays_eq (b m : List UInt8) (q s : Rd × List UInt8 × Nat × Bool) (hq : takeA ⟨0, 0, 0, 0⟩ b = q) (hs : takeA q.1 m = s) :
    (q.2.2.2 = false ∧ s = (q.1, [], 0, false) ∧ q.1.st = 11) ∨ (q.2.2.2 = true ∧ q.1.st = 10 ∧ s = (q.1, [], 0, true)) ∨ (q.2.2.2 = true ∧ ¬ q.1.st = 10) := by
  have h := stays_plain b m
  dsimp only at h
  subst hq
  subst hs
  cases e : (takeA ⟨0, 0, 0, 0⟩ b).2.2.2 with
  | false => exact .inl ⟨rfl, h.1 e⟩
  | true =>
    by_cases h10 : (takeA ⟨0, 0, 0, 0⟩ b).1.st = 10
    · exact .inr (.inl ⟨rfl, h10, h.2 e h10⟩)
    · exact .inr (.inr ⟨rfl, h10⟩)

set_option maxHeartbeats 1000000 in
theorem Stays_calls (w : World) (hG : Gv w) (ao : Option Addr) (l : List UInt8) (c : Nat) (hlc : l.length ≤ c) (h1 : Bs w ao l) (bo : Option Addr) (m : List UInt8) (d : Nat) (hmd : m.length ≤ d) (h2 : Bs w bo m) :
    Calls Tryd.prog 7 #[.slice ao l.length c, .slice bo m.length d] w fun e w' => e = .returned (.bool true) ∧ Below w.heap.size w w' := by
  by_cases hl1 : 1000 < l.length
  · exact Stays_big w hG ao bo _ _ c d (.inl hl1)
  by_cases hm1 : 1000 < m.length
  · exact Stays_big w hG ao bo _ _ c d (.inr hm1)
  have t1 : decide ((1000 : Int) < (l.length : Int)) = false := decide_eq_false (by omega)
  have t2 : decide ((1000 : Int) < (m.length : Int)) = false := decide_eq_false (by omega)
  have HL : Hid (l.length ≤ 1099511627776 ∧ m.length ≤ 1099511627776) := Lib.hid (by omega)
  have HC := Lib.hid hlc
  have HD := Lib.hid hmd
  have H1 := Lib.hid h1
  have H2 := Lib.hid h2
  have HG := Lib.hid hG
  have HX := Lib.hid hG.lt
  obtain ⟨q, hq⟩ : ∃ q, takeA ⟨0, 0, 0, 0⟩ l = q := ⟨_, rfl⟩
  obtain ⟨s, hs⟩ : ∃ s, takeA q.1 m = s := ⟨_, rfl⟩
  have HP := Lib.hid (stays_eq l m q s hq hs)
  have HI := Lib.hid (show RdI q.1 from hq ▸ takeA_i RdI.zero l)
  have HQ := Lib.hid hq
  have HS := Lib.hid hs
  clear h1 h2 hG hl1 hm1 hq hs hlc hmd
  go_enter Tryd.func7, Tryd.ntmps7
  go_wp2_with fail
  refine (wakes_calls _ HG.out).mono ?_
  rintro e w1 ⟨rfl, hb1⟩
  have HB1 := Lib.hid hb1
  clear hb1
  go_wp2_with fail
  refine (New_calls _).mono ?_
  rintro e w2 ⟨rfl, hr2, hb2⟩
  have HR2 := Lib.hid hr2
  have HB2 := Lib.hid (HB1.out.trans (hb2.mono HB1.out.size))
  have HN := Lib.hid HB1.out.size
  clear hr2 hb2
  go_wp2_with fail
  refine (Take_calls w2 w1.heap.size ⟨0, 0, 0, 0⟩ RdI.zero HR2.out (HG.out.below HB2.out).es (Nat.lt_of_lt_of_le HX.out.2 HN.out) ao l HL.out.1 c HC.out (H1.out.below HB2.out)).mono ?_
  rw [HQ.out]
  rintro e w3 ⟨ov3, rfl, ho3, hr3, hc3⟩
  have HR3 := Lib.hid hr3
  have HB3 := Lib.hid (Below.ch HB2.out hc3 (fun k hk => Nat.le_trans HN.out (Nat.le_of_eq hk.symm)) HB2.out.size)
  clear ho3 hc3 hr3
  go_wp2_with (go_at_call 15; refine (Done_calls _ _ _ HR3.out).mono ?_; rintro e w' ⟨rfl, rfl⟩)
  refine (Take_calls w3 w1.heap.size q.1 HI.out HR3.out (HG.out.below HB3.out).es (Nat.lt_of_lt_of_le HX.out.2 HN.out) bo m HL.out.2 d HD.out (H2.out.below HB3.out)).mono ?_
  rw [HS.out]
  rintro e w4 ⟨ov4, rfl, ho4, hr4, hc4⟩
  obtain ⟨a4, c4, rfl, -, -⟩ := ho4.bs'
  have HR4 := Lib.hid hr4
  have HB4 := Lib.hid (Below.ch HB3.out hc4 (fun k hk => Nat.le_trans HN.out (Nat.le_of_eq hk.symm)) HB3.out.size)
  clear ho4 hc4 hr4
  obtain ⟨q0, q1, q2, q3⟩ := q
  obtain ⟨s0, s1, s2, s3⟩ := s
  have et : errN true = 0 := rfl
  have ef : errN false = 2 := rfl
  rcases HP.out with ⟨h3, h4, h5⟩ | ⟨h3, h5, h4⟩ | ⟨h3, h4⟩
  · cases h3; cases h4
    have t3 : (q0.st == 10) = false := by have := h5; dsimp only at this; rw [this]; rfl
    go_wp2_with (go_at_call 15; refine (Done_calls _ _ _ HR4.out).mono ?_; rintro e w' ⟨rfl, rfl⟩)
    go_ret
    exact ⟨rfl, HB4.out⟩
  · cases h3; cases h4
    have t3 : (q0.st == 10) = true := by have := h5; dsimp only at this; rw [this]; rfl
    go_wp2_with (go_at_call 15; refine (Done_calls _ _ _ HR4.out).mono ?_; rintro e w' ⟨rfl, rfl⟩)
    go_ret
    exact ⟨rfl, HB4.out⟩
  · cases h3
    have t3 : (q0.st == 10) = false := by simpa using h4
    go_wp2_with (go_at_call 15; refine (Done_calls _ _ _ HR4.out).mono ?_; rintro e w' ⟨rfl, rfl⟩)
    go_ret
    exact ⟨rfl, HB4.out⟩
end Go.Proofs.YtiaafndkbcpbdaaDoor
