/- ChunkBack: the law's walk. -/
import Derived.Test.YtiaafndkbcpbdaaDoorCkN
import Derived.Test.YtiaafndkbcpbdaaDoorBaseB
namespace Go.Proofs.YtiaafndkbcpbdaaDoor
open Go.RowKit

theorem back_eq (l m : List UInt8) (n : Nat) (hn : 1 ≤ n) (hl : l.length ≤ 600) :
    takeA ⟨0, 0, 0, 0⟩ (wholeL l n ++ m) = (⟨10, 0, 0, 0⟩, l, (wholeL l n).length, true) ∧
    takeA ⟨0, 0, 0, 0⟩ ((wholeL l n).take ((wholeL l n).length - 1)) = (⟨9, 0, 0, 0⟩, l, (wholeL l n).length - 1, true) ∧ 1 ≤ (wholeL l n).length ∧ (wholeL l n).length ≤ 1048592000 := by
  have h : ∀ x ∈ piecesL l n, x.length < 16 ^ 12 := fun x hx => by
    have := pieces_len l n x hx
    have e : (16 : Nat) ^ 12 = 281474976710656 := by decide
    omega
  have h1 := takeA_puts (piecesL l n) h m
  have h2 := takeA_cut (piecesL l n) h
  rw [pieces_flat l n hn, ← whole_pieces] at h1 h2
  refine ⟨h1, h2, ?_, ?_⟩
  · unfold wholeL lastL
    simp
  · have h3 := outOf_len l (by omega) (cidx n l.length l.length 0)
    have h4 := cidx_len n l.length l.length 0
    have h5 : (cidx n l.length l.length 0).length * 1048592 ≤ 600 * 1048592 := Nat.mul_le_mul_right _ (by omega)
    unfold wholeL
    rw [List.length_append]
    have : lastL.length = 5 := rfl
    omega

set_option maxHeartbeats 1000000 in
theorem Back_big (w : World) (hG : Gv w) (ao bo : Option Addr) (l c m d : Nat) (k : Int) (hl : 600 < l ∨ 100 < m) :
    Calls Tryd.prog 6 #[.slice ao l c, .slice bo m d, .int .u8 k] w fun e w' => e = .returned (.bool true) ∧ Below w.heap.size w w' := by
  have HG := Lib.hid hG
  clear hG
  by_cases hl1 : 600 < l
  · have t1 : decide ((600 : Int) < (l : Int)) = true := decide_eq_true (by omega)
    clear hl
    go_enter Tryd.func6, Tryd.ntmps6
    go_wp2_with fail
    refine (wakes_calls _ HG.out).mono ?_
    rintro e w1 ⟨rfl, hb1⟩
    have HB1 := Lib.hid hb1
    clear hb1
    go_wp2_with fail
    go_ret
    exact ⟨rfl, HB1.out⟩
  · have t1 : decide ((600 : Int) < (l : Int)) = false := decide_eq_false (by omega)
    have t2 : decide ((100 : Int) < (m : Int)) = true := decide_eq_true (by omega)
    clear hl hl1
    go_enter Tryd.func6, Tryd.ntmps6
    go_wp2_with fail
    refine (wakes_calls _ HG.out).mono ?_
    rintro e w1 ⟨rfl, hb1⟩
    have HB1 := Lib.hid hb1
    clear hb1
    go_wp2_with fail
    go_ret
    exact ⟨rfl, HB1.out⟩

set_option maxHeartbeats 2000000 in
set_option maxRecDepth 100000 in
theorem Back_calls (w : World) (hG : Gv w) (ao : Option Addr) (l : List UInt8) (c : Nat) (hlc : l.length ≤ c) (h1 : Bs w ao l) (bo : Option Addr) (m : List UInt8) (d : Nat) (hmd : m.length ≤ d) (h2 : Bs w bo m) (hbn : bo = none → d = 0) (k0 : Int) (hk0 : (Lit.int .u8 k0).wf = true) :
    Calls Tryd.prog 6 #[.slice ao l.length c, .slice bo m.length d, .int .u8 k0] w fun e w' => e = .returned (.bool true) ∧ Below w.heap.size w w' := by
  by_cases hl1 : 600 < l.length
  · exact Back_big w hG ao bo _ c _ d k0 (.inl hl1)
  by_cases hm1 : 100 < m.length
  · exact Back_big w hG ao bo _ c _ d k0 (.inr hm1)
  have t1 : decide ((600 : Int) < (l.length : Int)) = false := decide_eq_false (by omega)
  have t2 : decide ((100 : Int) < (m.length : Int)) = false := decide_eq_false (by omega)
  have HL : Hid (l.length ≤ 600 ∧ m.length ≤ 100) := Lib.hid (by omega)
  have HC := Lib.hid hlc
  have HD := Lib.hid hmd
  have H1 := Lib.hid h1
  have H2 := Lib.hid h2
  have HG := Lib.hid hG
  have HX := Lib.hid hG.lt
  have HBN := Lib.hid hbn
  have hk1 : 0 ≤ k0 ∧ k0 ≤ 255 := by
    have a1 : IntKind.u8.min = 0 := rfl
    have a2 : IntKind.u8.max = 255 := rfl
    simp [Lit.wf, a1, a2] at hk0
    exact hk0
  obtain ⟨n, hn⟩ : ∃ n : Nat, k0 + 1 = n := ⟨(k0 + 1).toNat, by omega⟩
  have hw0 : wrap64 k0 = k0 := IntWalk.wrap64_in _ (by omega)
  have hw1 : wrap64 (k0 + 1) = (n : Int) := by rw [IntWalk.wrap64_in _ (by omega)]; exact hn
  have HN : Hid (1 ≤ n ∧ n ≤ 256) := Lib.hid (by omega)
  obtain ⟨L, hL⟩ : ∃ L, wholeL l n = L := ⟨_, rfl⟩
  have hq := back_eq l m n HN.out.1 HL.out.1
  rw [hL] at hq
  obtain ⟨hq1, hq2, hq3, hq4⟩ := hq
  obtain ⟨N1, hN1⟩ : ∃ N1, L.length - 1 = N1 := ⟨_, rfl⟩
  obtain ⟨L1, hL1⟩ : ∃ L1, L.take (L.length - 1) = L1 := ⟨_, rfl⟩
  have hl1 : L1.length = N1 := by rw [← hL1, List.length_take]; omega
  rw [hL1, hN1, ← hl1] at hq2
  have hw2 : wrap64 ((L.length : Int) - 1) = (L1.length : Int) := by rw [IntWalk.wrap64_in _ (by omega)]; omega
  have t3 : ((L.length : Int) == 0) = false := beq_eq_false_iff_ne.2 (by omega)
  have HQ2 := Lib.hid hq2
  have HQ4 := Lib.hid hq4
  have HLL := Lib.hid hL
  obtain ⟨M, hM⟩ : ∃ M, L ++ m = M := ⟨_, rfl⟩
  rw [hM] at hq1
  have HQ1 := Lib.hid hq1
  have HML : Hid (M.length ≤ 1099511627776) := Lib.hid (by rw [← hM, List.length_append]; have := HL.out; omega)
  have HM := Lib.hid hM
  have HL1 := Lib.hid hL1
  have HLn : Hid (L1.length ≤ L.length) := Lib.hid (by omega)
  clear h1 h2 hG hl1 hm1 hlc hmd hbn hk0 hk1 hn hq1 hq2 hq3 hq4 hN1 hL1 hL hM
  have et : errN true = 0 := rfl
  go_enter Tryd.func6, Tryd.ntmps6
  go_wp2_with fail
  refine (wakes_calls _ HG.out).mono ?_
  rintro e w1 ⟨rfl, hb1⟩
  have HB1 := Lib.hid hb1
  clear hb1
  go_wp2_with fail
  refine (Whole_calls w1 (HG.out.below HB1.out).tz ao l c (Nat.le_trans HL.out.1 (by decide)) HC.out (H1.out.below HB1.out) n HN.out.1 (Nat.le_trans HN.out.2 (by decide))).mono ?_
  rw [HLL.out]
  rintro e w2 ⟨ov2, rfl, ho2, hb2⟩
  obtain ⟨a2, c2, rfl, hs2, hc2, hge2, hn2⟩ := ho2.bs'
  have HGE2 := Lib.hid hge2
  have HB2 := Lib.hid (HB1.out.trans (hb2.mono HB1.out.size))
  have HS2 := Lib.hid hs2
  have HC2 := Lib.hid hc2
  have HN2 := Lib.hid hn2
  clear hb2 ho2 hs2 hc2 hn2 hge2
  go_wp2_with fail
  refine (New_calls _).mono ?_
  rintro e w3 ⟨rfl, hr3, hb3⟩
  have HR3 := Lib.hid hr3
  have HZ3 := Lib.hid (lt_of_block hr3)
  have HN3 := Lib.hid HB2.out.size
  have HB3 := Lib.hid (HB2.out.trans (hb3.mono HB2.out.size))
  have HS2 := Lib.hid (HS2.out.below hb3)
  clear hr3 hb3
  go_wp2_with fail
  refine (New_calls _).mono ?_
  rintro e w4 ⟨rfl, hr4, hb4⟩
  have HR4 := Lib.hid hr4
  have HR3 := Lib.hid (HR3.out.below hb4)
  have HZ4 := Lib.hid (lt_of_block hr4)
  have HN4 := Lib.hid HB3.out.size
  have HB4 := Lib.hid (HB3.out.trans (hb4.mono HB3.out.size))
  have HS2 := Lib.hid (HS2.out.below hb4)
  clear hr4 hb4
  have HW := Lib.hid (Ow.lit0 w4 w4.heap.size (Nat.le_refl _))
  have HBW := Lib.hid ((Below.refl w4.heap.size w4).alloc (Nat.le_refl _) (.cells #[] 5))
  have HBs2 : Hid (Bs (w4.alloc (.cells #[] 5)) a2 L) := Lib.hid (HS2.out.below HBW.out)
  have HS1 : Hid ((([] : List UInt8)).length + L.length ≤ 70368744177664) := Lib.hid (by have := HQ4.out; simp; omega)
  have HSz2 : Hid ((([] : List UInt8) ++ L).length + m.length ≤ 70368744177664) := Lib.hid (by have := HQ4.out; have := HL.out; simp; omega)
  go_wp2_with (first
    | (at_builtin; refine wp_app rfl _ _ rfl w4.heap.size (.slice (some ⟨w4.heap.size, 0, none⟩) 0 0) _ rfl HW.out a2 _ _ rfl L rfl HBs2.out HN2.out HS1.out HBW.out.size ?_; intro v7 w7 hown hgr _; have HB7 := Lib.hid (Below.own HBW.out HW.out hgr (Nat.le_refl _)); have HO7 := Lib.hid hown; have HBs7 := Lib.hid ((H2.out.below HB4.out).below HB7.out); clear hown hgr HW)
    | (at_builtin; refine wp_app rfl _ _ rfl w4.heap.size v7 _ rfl HO7.out bo _ _ rfl m rfl HBs7.out HBN.out HSz2.out HB7.out.size ?_; intro v8 w8 hown hgr _; have HB8 := Lib.hid (Below.own HB7.out HO7.out hgr (Nat.le_refl _)); rw [List.nil_append, HM.out] at hown; obtain ⟨a8, c8, rfl, hs8, hc8, hge8, -⟩ := hown.bs'; have HS8 := Lib.hid hs8; have HC8 := Lib.hid hc8; clear hown hgr HO7 hs8 hc8 hge8))
  have HB8' := Lib.hid (HB4.out.trans (HB8.out.mono HB4.out.size))
  refine (Take_calls w8 w2.heap.size ⟨0, 0, 0, 0⟩ RdI.zero (HR3.out.below HB8.out) (HG.out.below HB8'.out).es (Nat.lt_of_lt_of_le HX.out.2 HN3.out) a8 M HML.out c8 HC8.out HS8.out).mono ?_
  rw [HQ1.out]
  rintro e w9 ⟨ov9, rfl, ho9, hr9, hc9⟩
  obtain ⟨a9, c9, rfl, hs9, -, hge9, -⟩ := ho9.bs'
  have HB9 := Lib.hid (Below.ch HB8'.out hc9 (fun k hk => Nat.le_trans HN3.out (Nat.le_of_eq hk.symm)) HB8'.out.size)
  have HR9 := Lib.hid hr9
  have HR4 := Lib.hid (show RdAt w9 w3.heap.size _ from (hc9.block _ (lt_of_block (HR4.out.below HB8.out)) (Nat.ne_of_gt HZ3.out)).trans (HR4.out.below HB8.out))
  have HS9 := Lib.hid hs9
  have HS2 := Lib.hid ((HS2.out.below HB8.out).ch hc9 (fun b off hb _ hk => Nat.lt_irrefl _ (hk ▸ (HGE2.out b off none hb).2.1)))
  have HGE9 := Lib.hid hge9
  have HZ8 := Lib.hid HB8.out.size
  clear hr9 hc9 ho9 hs9 hge9
  have hsl := fun W => run_sliceTo W a2 L.length c2 L1.length (Nat.le_trans HLn.out HC2.out)
  have HBs1 : Hid (Bs w9 a2 L1) := Lib.hid (HL1.out ▸ HS2.out.take _)
  go_wp2_with fail
  refine (Take_calls w9 w3.heap.size ⟨0, 0, 0, 0⟩ RdI.zero HR4.out (HG.out.below HB9.out).es (Nat.lt_of_lt_of_le HX.out.2 HN4.out) a2 L1 (Nat.le_trans HLn.out (Nat.le_trans HQ4.out (by decide))) c2 (Nat.le_trans HLn.out HC2.out) HBs1.out).mono ?_
  rw [HQ2.out]
  rintro e w10 ⟨ov10, rfl, ho10, hr10, hc10⟩
  obtain ⟨a10, c10, rfl, hs10, -, -, -⟩ := ho10.bs'
  have HB10 := Lib.hid (Below.ch HB9.out hc10 (fun k hk => Nat.le_trans HN4.out (Nat.le_of_eq hk.symm)) HB9.out.size)
  have HR10 := Lib.hid hr10
  have HR9 := Lib.hid (show RdAt w10 w2.heap.size _ from (hc10.block _ (lt_of_block HR9.out) (Nat.ne_of_lt HZ3.out)).trans HR9.out)
  have HS10 := Lib.hid hs10
  have HS9 := Lib.hid (HS9.out.ch hc10 (fun b off hb _ hk => by have := (HGE9.out b off none hb).1; have := HZ8.out; have := HZ4.out; omega))
  have HT10 := Lib.hid (H1.out.below HB10.out)
  clear hr10 hc10 ho10 hs10
  go_wp2_with (first
    | (go_at_call 14; with_reducible refine (same_calls _ _ _ _ _ _ _ HS9.out HT10.out).mono ?_; rintro e w' ⟨rfl, rfl⟩)
    | (go_at_call 14; with_reducible refine (same_calls _ _ _ _ _ _ _ HS10.out HT10.out).mono ?_; rintro e w' ⟨rfl, rfl⟩)
    | (go_at_call 15; with_reducible refine (Done_calls _ _ _ HR9.out).mono ?_; rintro e w' ⟨rfl, rfl⟩)
    | (go_at_call 15; with_reducible refine (Done_calls _ _ _ HR10.out).mono ?_; rintro e w' ⟨rfl, rfl⟩))
  go_ret
  exact ⟨rfl, HB10.out⟩
end Go.Proofs.YtiaafndkbcpbdaaDoor
