/- ChunkDealt: the law's walk. -/
import Derived.Test.YtiaafndkbcpbdaaDoorCkM
import Derived.Test.YtiaafndkbcpbdaaDoorBaseB
namespace Go.Proofs.YtiaafndkbcpbdaaDoor
open Go.RowKit

theorem dealt_eq (b : List UInt8) (k : Nat) (q s t : Rd × List UInt8 × Nat × Bool) (hq : takeA ⟨0, 0, 0, 0⟩ b = q) (hs : takeA ⟨0, 0, 0, 0⟩ (b.take k) = s) (ht : takeA s.1 (b.drop k) = t) :
    (q.2.2.2 = false ∧ q.2.1 = [] ∧ (s.2.2.2 = false ∨ s.2.2.2 = true ∧ t.2.2.2 = false)) ∨ (q.2.2.2 = true ∧ s.2.2.2 = true ∧ t.2.2.2 = true ∧ q.2.2.1 = s.2.2.1 + t.2.2.1 ∧ q.2.1 = s.2.1 ++ t.2.1 ∧ q.1 = t.1) := by
  have e : b = b.take k ++ b.drop k := (List.take_append_drop k b).symm
  subst hq hs ht
  cases h1 : (takeA ⟨0, 0, 0, 0⟩ (b.take k)).2.2.2 with
  | false =>
    have h2 := takeA_app_er (r := ⟨0, 0, 0, 0⟩) (b.take k) (b.drop k) h1
    rw [← e] at h2
    rw [h2]
    exact .inl ⟨h1, (takeA_er RdI.zero _ h1).2, .inl rfl⟩
  | true =>
    have h2 := takeA_app RdI.zero (b.take k) (b.drop k) h1
    rw [← e] at h2
    cases h3 : (takeA (takeA ⟨0, 0, 0, 0⟩ (b.take k)).1 (b.drop k)).2.2.2 with
    | false =>
      rw [h3, if_neg (by decide)] at h2
      rw [h2]
      exact .inl ⟨rfl, rfl, .inr ⟨rfl, rfl⟩⟩
    | true =>
      rw [h3, if_pos rfl] at h2
      rw [h2]
      exact .inr ⟨rfl, rfl, rfl, rfl, rfl, rfl⟩

set_option maxHeartbeats 1000000 in
theorem Dealt_big (w : World) (hG : Gv w) (ao : Option Addr) (l c : Nat) (k : Int) (hl : 1000 < l) :
    Calls Tryd.prog 4 #[.slice ao l c, .int .u16 k] w fun e w' => e = .returned (.bool true) ∧ Below w.heap.size w w' := by
  have HG := Lib.hid hG
  have t1 : decide ((1000 : Int) < (l : Int)) = true := decide_eq_true (by omega)
  clear hG hl
  go_enter Tryd.func4, Tryd.ntmps4
  go_wp2_with fail
  refine (wakes_calls _ HG.out).mono ?_
  rintro e w1 ⟨rfl, hb1⟩
  have HB1 := Lib.hid hb1
  clear hb1
  go_wp2_with fail
  go_ret
  exact ⟨rfl, HB1.out⟩

set_option maxHeartbeats 2000000 in
set_option maxRecDepth 100000 in
theorem Dealt_calls (w : World) (hG : Gv w) (ao : Option Addr) (l : List UInt8) (c : Nat) (hlc : l.length ≤ c) (h1 : Bs w ao l) (k0 : Int) (hk0 : (Lit.int .u16 k0).wf = true) :
    Calls Tryd.prog 4 #[.slice ao l.length c, .int .u16 k0] w fun e w' => e = .returned (.bool true) ∧ Below w.heap.size w w' := by
  by_cases hl1 : 1000 < l.length
  · exact Dealt_big w hG ao _ c k0 hl1
  have t1 : decide ((1000 : Int) < (l.length : Int)) = false := decide_eq_false (by omega)
  have HL : Hid (l.length ≤ 1000) := Lib.hid (by omega)
  have HC := Lib.hid hlc
  have H1 := Lib.hid h1
  have HG := Lib.hid hG
  have HX := Lib.hid hG.lt
  have hk1 : 0 ≤ k0 ∧ k0 ≤ 65535 := by
    have a1 : IntKind.u16.min = 0 := rfl
    have a2 : IntKind.u16.max = 65535 := rfl
    simp [Lit.wf, a1, a2] at hk0
    exact hk0
  obtain ⟨k, rfl⟩ : ∃ k : Nat, k0 = k := ⟨k0.toNat, by omega⟩
  obtain ⟨at0, hat⟩ : ∃ a, k % (l.length + 1) = a := ⟨_, rfl⟩
  have hal : at0 ≤ l.length := by have := Nat.mod_lt k (show 0 < l.length + 1 by omega); omega
  obtain ⟨l1, hl1'⟩ : ∃ m, l.take at0 = m := ⟨_, rfl⟩
  obtain ⟨l2, hl2'⟩ : ∃ m, l.drop at0 = m := ⟨_, rfl⟩
  have hb1 : Bs w ao l1 := hl1' ▸ h1.take at0
  have hb2 : Bs w (fromA ao c at0) l2 := hl2' ▸ h1.from c at0 hlc
  have hn1 : at0 = l1.length := by rw [← hl1', List.length_take]; omega
  have hn2 : l2.length = l.length - at0 := by rw [← hl2', List.length_drop]
  obtain ⟨q, hq⟩ : ∃ q, takeA ⟨0, 0, 0, 0⟩ l = q := ⟨_, rfl⟩
  obtain ⟨s, hs⟩ : ∃ s, takeA ⟨0, 0, 0, 0⟩ l1 = s := ⟨_, rfl⟩
  obtain ⟨t, ht⟩ : ∃ t, takeA s.1 l2 = t := ⟨_, rfl⟩
  have HP := Lib.hid (dealt_eq l at0 q s t hq (hl1' ▸ hs) (hl2' ▸ ht))
  have HI := Lib.hid (show RdI s.1 from hs ▸ takeA_i RdI.zero _)
  have HQL := Lib.hid (show q.2.1.length ≤ l.length from hq ▸ (takeA_len RdI.zero _).1)
  have HSL := Lib.hid (show s.2.1.length ≤ l1.length from hs ▸ (takeA_len RdI.zero _).1)
  have HTL := Lib.hid (show t.2.1.length ≤ l2.length from ht ▸ (takeA_len HI.out _).1)
  have HQ := Lib.hid hq
  have HNQ : Hid (q.2.2.1 ≤ l.length) := Lib.hid (hq ▸ (takeA_len RdI.zero _).2)
  have HS := Lib.hid hs
  have HT := Lib.hid ht
  have HA : Hid (l1.length + l2.length = l.length) := Lib.hid (by omega)
  have HB1' := Lib.hid hb1
  have HB2' := Lib.hid hb2
  have hrem : Int.tmod (k : Int) ((l.length : Int) + 1) = (at0 : Int) := by rw [← hat]; rfl
  have hw0 : wrap64 (k : Int) = (k : Int) := IntWalk.wrap64_in _ (by omega)
  have hw1 : wrap64 ((l.length : Int) + 1) = (l.length : Int) + 1 := IntWalk.wrap64_in _ (by omega)
  have hsl1 := fun W => run_sliceTo W ao l.length c at0 (Nat.le_trans hal hlc)
  have hsl2 := fun W => run_sliceFrom W ao l.length c at0 hal
  rw [← hn2] at hsl2
  clear hl1' hl2' hb1 hb2 hn2
  subst hn1
  clear h1 hG hl1 hq hs ht hlc hk0 hk1 hat hal
  go_enter Tryd.func4, Tryd.ntmps4
  go_wp2_with fail
  refine (wakes_calls _ HG.out).mono ?_
  rintro e w1 ⟨rfl, hb1⟩
  have HB1 := Lib.hid hb1
  clear hb1
  go_wp2_with fail
  refine (New_calls _).mono ?_
  rintro e w2 ⟨rfl, hr2, hb2⟩
  have HR2 := Lib.hid hr2
  have HB2 := Lib.hid (HB1.out.trans (hb2.mono HB1.out.size))
  have HN2 := Lib.hid HB1.out.size
  have HZ2 := Lib.hid (lt_of_block hr2)
  clear hr2 hb2
  go_wp2_with fail
  refine (New_calls _).mono ?_
  rintro e w3 ⟨rfl, hr3, hb3⟩
  have HR3 := Lib.hid hr3
  have HZ3 := Lib.hid (lt_of_block hr3)
  have HR2 := Lib.hid (HR2.out.below hb3)
  have HN3 := Lib.hid HB2.out.size
  have HB3 := Lib.hid (HB2.out.trans (hb3.mono HB2.out.size))
  clear hr3 hb3
  go_wp2_with fail
  refine (Take_calls w3 w1.heap.size ⟨0, 0, 0, 0⟩ RdI.zero HR2.out (HG.out.below HB3.out).es (Nat.lt_of_lt_of_le HX.out.2 HN2.out) ao l (Nat.le_trans HL.out (by decide)) c HC.out (H1.out.below HB3.out)).mono ?_
  rw [HQ.out]
  rintro e w4 ⟨ov4, rfl, ho4, hr4, hc4⟩
  have HB4 := Lib.hid (Below.ch HB3.out hc4 (fun k hk => Nat.le_trans HN2.out (Nat.le_of_eq hk.symm)) HB3.out.size)
  have HR4 := Lib.hid hr4
  have HR3 := Lib.hid (show RdAt w4 w2.heap.size _ from (hc4.block _ (lt_of_block HR3.out) (Nat.ne_of_gt HZ2.out)).trans HR3.out)
  obtain ⟨a4, c4, rfl, hs4, -, hge4, hn4⟩ := ho4.bs'
  have HS4 := Lib.hid hs4
  have HO4 := Lib.hid hge4
  clear hr4 hc4 ho4 hs4 hge4
  go_wp2_with fail
  refine (Take_calls w4 w2.heap.size ⟨0, 0, 0, 0⟩ RdI.zero HR3.out (HG.out.below HB4.out).es (Nat.lt_of_lt_of_le HX.out.2 HN3.out) ao l1 (by have := HL.out; have := HA.out; omega) c (by have := HC.out; have := HA.out; omega) (HB1'.out.below HB4.out)).mono ?_
  rw [HS.out]
  rintro e w5 ⟨ov5, rfl, ho5, hr5, hc5⟩
  have HB5 := Lib.hid (Below.ch HB4.out hc5 (fun k hk => Nat.le_trans HN3.out (Nat.le_of_eq hk.symm)) HB4.out.size)
  have HR5 := Lib.hid hr5
  have HN35 : Hid (w2.heap.size < w4.heap.size) := Lib.hid (lt_of_block HR3.out)
  have HR4 := Lib.hid (show RdAt w5 w1.heap.size _ from (hc5.block _ (lt_of_block HR4.out) (Nat.ne_of_lt HZ2.out)).trans HR4.out)
  have HS4 := Lib.hid (HS4.out.ch hc5 (fun b off hb _ hk => by have := (HO4.out b off none hb).1; have := HZ3.out; omega))
  obtain ⟨a5, c5, rfl, hs5, -, hge5, hn5⟩ := ho5.bs'
  have HS5 := Lib.hid hs5
  have HO5 := Lib.hid hge5
  clear hr5 hc5 ho5 hs5 hge5
  go_wp2_with fail
  refine (Take_calls w5 w2.heap.size s.1 HI.out HR5.out (HG.out.below HB5.out).es (Nat.lt_of_lt_of_le HX.out.2 HN3.out) (fromA ao c l1.length) l2 (by have := HL.out; have := HA.out; omega) (c - l1.length) (by have := HC.out; have := HA.out; omega) (HB2'.out.below HB5.out)).mono ?_
  rw [HT.out]
  rintro e w6 ⟨ov6, rfl, ho6, hr6, hc6⟩
  have HB6 := Lib.hid (Below.ch HB5.out hc6 (fun k hk => Nat.le_trans HN3.out (Nat.le_of_eq hk.symm)) HB5.out.size)
  have HR6 := Lib.hid hr6
  have HR4 := Lib.hid (show RdAt w6 w1.heap.size _ from (hc6.block _ (lt_of_block HR4.out) (Nat.ne_of_lt HZ2.out)).trans HR4.out)
  obtain ⟨a6, c6, rfl, hs6, -, -, hn6⟩ := ho6.bs'
  have HS6 := Lib.hid hs6
  have HS4 := Lib.hid (HS4.out.ch hc6 (fun b off hb _ hk => by have := (HO4.out b off none hb).1; have := HZ3.out; omega))
  have HS5 := Lib.hid (HS5.out.ch hc6 (fun b off hb _ hk => by have := (HO5.out b off none hb).1; have := HN35.out; omega))
  clear hr6 hc6 ho6 hs6
  have et : errN true = 0 := rfl
  have ef : errN false = 2 := rfl
  obtain ⟨q0, q1, q2, q3⟩ := q
  obtain ⟨s0, s1, s2, s3⟩ := s
  obtain ⟨t0, t1', t2, t3⟩ := t
  rcases HP.out with ⟨h3, h4, h5⟩ | ⟨h3, h4, h5, h6, h7, h8⟩
  · dsimp only at h3 h4 h5
    subst h3 h4
    rcases h5 with h5 | ⟨h5, h6⟩
    · subst h5
      go_wp2_with fail
      go_ret
      exact ⟨rfl, HB6.out⟩
    · subst h5 h6
      go_wp2_with fail
      go_ret
      exact ⟨rfl, HB6.out⟩
  · dsimp only at h3 h4 h5 h6 h7 h8
    subst h3 h4 h5 h8
    have HQ1 : Hid ([] ++ s1 ++ t1' = q1) := Lib.hid (by rw [h7]; rfl)
    have hq2 : q2 ≤ l.length := HNQ.out
    have hq3 : q2 ≤ 1000 := Nat.le_trans hq2 HL.out
    have hw3 : wrap64 ((s2 : Int) + (t2 : Int)) = (q2 : Int) := by rw [IntWalk.wrap64_in _ (by omega)]; omega
    have HL1 : Hid (s1.length ≤ l1.length) := HSL
    have HL2 : Hid (t1'.length ≤ l2.length) := HTL
    have HS1 : Hid ((([] : List UInt8)).length + s1.length ≤ 70368744177664) := Lib.hid (by have := HL1.out; have := HA.out; have := HL.out; simp; omega)
    have HS2 : Hid ((([] : List UInt8) ++ s1).length + t1'.length ≤ 70368744177664) := Lib.hid (by have := HL1.out; have := HL2.out; have := HA.out; have := HL.out; simp; omega)
    clear hq2 hq3 h6 h7
    have HNN := Lib.hid hn5
    have HNM := Lib.hid hn6
    have HW := Lib.hid (Ow.lit0 w6 w6.heap.size (Nat.le_refl _))
    have HBW := Lib.hid ((Below.refl w6.heap.size w6).alloc (Nat.le_refl _) (.cells #[] 5))
    have HBs5 : Hid (Bs (w6.alloc (.cells #[] 5)) a5 s1) := Lib.hid (HS5.out.below HBW.out)
    go_wp2_with (first
      | (at_builtin; refine wp_app_g rfl _ _ rfl w6.heap.size (.slice (some ⟨w6.heap.size, 0, none⟩) 0 0) _ rfl HW.out a5 _ _ rfl s1 rfl HBs5.out HNN.out HS1.out HBW.out.size ?_; intro v7 w7 hown hgr _; have HB7 := Lib.hid (Below.own HBW.out HW.out hgr (Nat.le_refl _)); have HO7 := Lib.hid hown; have HBs7 := Lib.hid (HS6.out.below HB7.out); clear hown hgr HW)
      | (at_builtin; refine wp_app_g rfl _ _ rfl w6.heap.size v7 _ rfl HO7.out a6 _ _ rfl t1' rfl HBs7.out HNM.out HS2.out HB7.out.size ?_; intro v8 w8 hown hgr _; have HB8 := Lib.hid (Below.own HB7.out HO7.out hgr (Nat.le_refl _)); rw [HQ1.out] at hown; obtain ⟨a8, c8, rfl, hs8, -, -, -⟩ := hown.bs'; have HS8 := Lib.hid hs8; have HS4 := Lib.hid (HS4.out.below HB8.out); have HR4 := Lib.hid (HR4.out.below HB8.out); have HR6 := Lib.hid (HR6.out.below HB8.out); clear hown hgr HO7 hs8)
      | (go_at_call 14; refine (same_calls _ _ _ _ _ _ _ HS4.out HS8.out).mono ?_; rintro e w' ⟨rfl, rfl⟩)
      | (go_at_call 15; with_reducible refine (Done_calls _ _ _ HR4.out).mono ?_; rintro e w' ⟨rfl, rfl⟩)
      | (go_at_call 15; with_reducible refine (Done_calls _ _ _ HR6.out).mono ?_; rintro e w' ⟨rfl, rfl⟩))
    go_ret
    exact ⟨rfl, HB6.out.trans (HB8.out.mono HB6.out.size)⟩
end Go.Proofs.YtiaafndkbcpbdaaDoor
