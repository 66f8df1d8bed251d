/- The laws' helper that reads a body dealt by cuts. -/
import Derived.Test.YteneioapchhehaaDoorFrQ
namespace Go.Proofs.YteneioapchhehaaDoor
open Go.RowKit

def cutN (cuts : BL) (i n : Nat) : Nat := match cuts[i]? with
  | some x => min n (x.toNat % 7 + 1)
  | none => n
theorem cutN_le (cuts : BL) (i n : Nat) : cutN cuts i n ≤ n := by
  unfold cutN
  split
  · exact Nat.min_le_left _ _
  · exact Nat.le_refl _
theorem cutN_pos (cuts : BL) (i n : Nat) (h : 0 < n) : 0 < cutN cuts i n := by
  unfold cutN
  split
  · omega
  · exact h

/-- what is read of bytes dealt by cuts: what was read, how many bytes, and whether there was no error -/
def readL (cuts : BL) : Nat → Fr → BL → Nat → BL → Nat → BL × Nat × Bool × Fr
  | 0, r, _, _, out, all => (out, all, true, r)
  | f + 1, r, b, i, out, all =>
    if b = [] ∨ frDone r = true then (out, all, true, r)
    else if (frTake r (b.take (cutN cuts i b.length))).2.2.2 = false ∨ (frTake r (b.take (cutN cuts i b.length))).2.2.1 = 0 then (out, all, false, (frTake r (b.take (cutN cuts i b.length))).1)
    else readL cuts f (frTake r (b.take (cutN cuts i b.length))).1 (b.drop (frTake r (b.take (cutN cuts i b.length))).2.2.1) (i + 1) (out ++ (frTake r (b.take (cutN cuts i b.length))).2.1) (all + (frTake r (b.take (cutN cuts i b.length))).2.2.1)

structure RdRel (w : World) (g gc : Nat) (B cuts : BL) (co : Option Addr) (R : BL × Nat × Bool × Fr) (wr : World) (b' : Option Addr) (c' : Nat) (rest out : BL) (k i f : Nat) (fr : Fr) : Prop where
  bs : Bs wr b' rest
  cap : rest.length ≤ c'
  nn : b' = none → c' = 0
  at_ : FrAt wr g gc fr
  inv : FrI fr
  cu : Bs wr co cuts
  ch : Ch (fun k => k = g ∨ k = gc) w wr
  fuel : rest.length ≤ f
  len : k + rest.length = B.length
  ik : i ≤ k
  ol : out.length ≤ i * 1048576
  res : readL cuts f fr rest i out k = R

def sliceLen : Value → Nat
  | .slice _ n _ => n
  | _ => 0
theorem errvar_fch {w w' : World} {g gc : Nat} (h : ErrVar 0 w) (hc : Ch (fun k => k = g ∨ k = gc) w w') (h1 : 0 < gc) (h2 : gc < g) : ErrVar 0 w' :=
  h.ch hc (by rintro (h | h) <;> omega)

set_option maxHeartbeats 8000000 in
set_option maxRecDepth 100000 in
theorem fread_calls (w : World) (g gc : Nat) (r0 : Fr) (hi : FrI r0) (h : FrAt w g gc r0) (hE : ErrVar 0 w) (hg : 0 < gc) (bo co : Option Addr) (B cuts : BL) (c d : Nat) (hl : B.length ≤ 1048576) (hc : B.length ≤ c) (hbn : bo = none → c = 0) (hb : Bs w bo B) (hcl : cuts.length ≤ 1048576) (_hd : cuts.length ≤ d) (hcu : Bs w co cuts) :
    Calls Tryd.prog 22 #[.pointer (some ⟨g, 0, none⟩), .slice bo B.length c, .slice co cuts.length d] w fun e w' =>
      e = .returned (.tuple #[.string (bs (readL cuts B.length r0 B 0 [] 0).1), .int .i64 (readL cuts B.length r0 B 0 [] 0).2.1, .bool (readL cuts B.length r0 B 0 [] 0).2.2.1]) ∧ FrAt w' g gc (readL cuts B.length r0 B 0 [] 0).2.2.2 ∧ FrI (readL cuts B.length r0 B 0 [] 0).2.2.2 ∧ Ch (fun k => k = g ∨ k = gc) w w' := by
  obtain ⟨R, hR⟩ : ∃ R, readL cuts B.length r0 B 0 [] 0 = R := ⟨_, rfl⟩
  have HR0 : Hid (RdRel w g gc B cuts co R w bo c B [] 0 0 B.length r0) := Lib.hid ⟨hb, hc, hbn, h, hi, hcu, Ch.refl _ w, Nat.le_refl _, by simp, Nat.le_refl _, by simp, hR⟩
  rw [hR]
  have HE := Lib.hid hE
  have HG := Lib.hid hg
  have HL := Lib.hid hl
  have HCL := Lib.hid hcl
  have HGG := Lib.hid h.1
  clear hb hc hbn h hi hcu hR hE hg hl hcl _hd
  go_enter Tryd.func22, Tryd.ntmps22
  go_wp2_with fail
  go_loopw [1, 9, 10, 11] (fun v1 v9 v10 v11 wr => ∃ b' c' rest out k i f fr, v1 = .slice b' (List.length rest) c' ∧ v9 = .string (bs out) ∧ v10 = .int .i64 (k : Nat) ∧ v11 = .int .i64 (i : Nat) ∧ RdRel w g gc B cuts co R wr b' c' rest out k i f fr) (fun v1 _ _ _ _ => sliceLen v1)
  case atStart => exact ⟨bo, c, B, [], 0, 0, B.length, r0, rfl, rfl, rfl, rfl, HR0.out⟩
  case round =>
    clear HR0
    obtain ⟨b', c', rest, out, k, i, f, fr, rfl, rfl, rfl, rfl, hrr⟩ := hrel
    have HRR := Lib.hid hrr
    clear hrr
    obtain ⟨M, hM⟩ : ∃ M, rest.length = M := ⟨_, rfl⟩
    rw [hM]
    have HM := Lib.hid hM
    have HML : Hid (M ≤ 1048576 ∧ k ≤ 1048576 ∧ i ≤ 1048576 ∧ M ≤ f ∧ M ≤ c') := Lib.hid (by have := HRR.out.len; have := HRR.out.fuel; have := HRR.out.cap; have := HRR.out.ik; have := HL.out; omega)
    clear hM
    by_cases hne : 0 < M
    · obtain ⟨f, rfl⟩ : ∃ n, f = n + 1 := ⟨f - 1, by have := HML.out; omega⟩
      have HNE : Hid (¬ rest = []) := Lib.hid (by rintro rfl; have := HM.out; simp at this; omega)
      cases hdn : frDone fr with
      | true =>
        have HDN := Lib.hid hdn
        have HRES := HRR.out.res
        rw [readL, if_pos (.inr hdn)] at HRES
        have HRES := Lib.hid HRES
        clear hdn
        go_wp2_with fail
        refine (fDone_calls wr g gc fr HRR.out.inv HRR.out.at_).mono ?_
        rintro e w' ⟨rfl, rfl⟩
        rw [HDN.out]
        go_wp2_with fail
        go_ret3
        rw [← HRES.out]
        exact ⟨rfl, HRR.out.at_, HRR.out.inv, HRR.out.ch⟩
      | false =>
        have HDN := Lib.hid hdn
        obtain ⟨N, hN⟩ : ∃ N, cutN cuts i M = N := ⟨_, rfl⟩
        obtain ⟨P, hP⟩ : ∃ P, rest.take N = P := ⟨_, rfl⟩
        obtain ⟨⟨r2, dt, k2, ok⟩, hq⟩ : ∃ q, frTake fr P = q := ⟨_, rfl⟩
        have hres := HRR.out.res
        rw [readL, if_neg (by rintro (h | h); exact HNE.out h; rw [hdn] at h; cases h), HM.out, hN, hP, hq] at hres
        dsimp only at hres
        have hNM : N ≤ M := by rw [← hN]; exact cutN_le _ _ _
        have hN0 : 0 < N := by rw [← hN]; exact cutN_pos _ _ _ hne
        have hPN : P.length = N := by rw [← hP, List.length_take, HM.out]; omega
        have hle := frTake_len HRR.out.inv P
        rw [hq, hPN] at hle
        dsimp only at hle
        have hi2 := frTake_I HRR.out.inv P
        rw [hq] at hi2
        dsimp only at hi2
        have HPN := Lib.hid hPN
        have HNM := Lib.hid hNM
        have hsl1 := fun W => run_sliceTo W b' M c' N (by have := HML.out; omega)
        have HBP : Hid (Bs wr b' P) := Lib.hid (hP ▸ HRR.out.bs.take N)
        have HRES := Lib.hid hres
        have HLE := Lib.hid hle
        have HI2 := Lib.hid hi2
        have HQ := Lib.hid hq
        have HS1 : Hid (([] : List UInt8).length + N ≤ 70368744177664) := Lib.hid (by have := HML.out; simp; omega)
        clear hres hNM hPN hle hi2 hq hP hdn
        by_cases hcut : i < cuts.length
        · obtain ⟨cb, coff, hco⟩ := HRR.out.cu.some_of (Nat.lt_of_le_of_lt (Nat.zero_le _) hcut)
          subst hco
          obtain ⟨x, hx⟩ : ∃ x, cuts[i]? = some x := ⟨_, List.getElem?_eq_getElem hcut⟩
          have hcell : wr.cell? ⟨cb, coff + i, none⟩ = some (bv x) := HRR.out.cu.plain i x hx
          have hmn : min M (x.toNat % 7 + 1) = N := by rw [← hN]; unfold cutN; rw [hx]
          obtain ⟨z, hz⟩ : ∃ z, x.toNat = z := ⟨_, rfl⟩
          have hz256 : z < 256 := by rw [← hz]; exact x.toNat_lt
          rw [bv, hz] at hcell
          rw [hz] at hmn
          obtain ⟨y, hy⟩ : ∃ y, z % 7 = y := ⟨_, rfl⟩
          have hy7 : y ≤ 4611686018427387904 := Nat.le_trans (Nat.le_of_lt (hy ▸ Nat.mod_lt z (by decide) : y < 7)) (by decide)
          obtain ⟨v, hv⟩ : ∃ v, y + 1 = v := ⟨_, rfl⟩
          rw [hy, hv] at hmn
          have hwz : wrap64 (z : Int) = (z : Int) := IntWalk.wrap64_in _ ⟨Int.le_trans (by decide) (Int.natCast_nonneg z), Int.le_trans (Int.ofNat_le.2 (Nat.le_of_lt hz256)) (by decide)⟩
          have hwy : wrap64 ((y : Int) + 1) = (v : Int) := hv ▸ w1 y hy7
          have hrem : Int.tmod (z : Int) 7 = (y : Int) := by rw [← hy]; rfl
          have hmin : min (M : Int) (v : Int) = (N : Int) := by rw [min_nat, hmn]
          clear hy7 hv
          have HCLI := Lib.hid (Nat.le_of_lt hcut)
          clear hN hx hz hy hmn hz256 hN0
          go_wp2_with fail
          refine (fDone_calls wr g gc fr HRR.out.inv HRR.out.at_).mono ?_
          rintro e w' ⟨rfl, rfl⟩
          rw [HDN.out]
          have HW := Lib.hid (Ow.lit0 wr wr.heap.size (Nat.le_refl _))
          have HBW := Lib.hid ((Below.refl wr.heap.size wr).alloc (Nat.le_refl _) (.cells #[] 5))
          have HBs := Lib.hid (HBP.out.below HBW.out)
          have HNN := Lib.hid HRR.out.nn
          go_wp2_with (at_builtin; refine wp_app rfl _ _ rfl wr.heap.size (.slice (some ⟨wr.heap.size, 0, none⟩) 0 0) _ rfl HW.out b' _ _ rfl P HPN.out HBs.out HNN.out HS1.out HBW.out.size ?_; intro v5 w5 hown hgr _; have HB5 := Lib.hid (Below.own HBW.out HW.out hgr (Nat.le_refl _)); rw [List.nil_append] at hown; obtain ⟨a5, c5, rfl, hs5, hc5, -, hn5⟩ := hown.bs'; have HS5 := Lib.hid hs5; have HC5 := Lib.hid hc5; have HN5 := Lib.hid hn5; clear hown hgr HW hs5 hc5 hn5)
          try clear hrem hwz hwy hmin hcell hcut
          have HA5 := Lib.hid (HRR.out.at_.below HB5.out)
          have HCH5 := Lib.hid (HRR.out.ch.below HB5.out)
          refine (fTake_any w5 g gc fr HRR.out.inv HA5.out (errvar_fch HE.out HCH5.out HG.out HGG.out) HG.out a5 P (by have := HPN.out; have := HML.out; have := HNM.out; omega) c5 HC5.out HN5.out HS5.out).mono ?_
          rw [HQ.out]
          rintro e w6 ⟨a6, c6, rfl, hs6, hr6, hc6⟩
          have rs := run_str (n := dt.length) hs6 rfl c6
          have HB6 := Lib.hid ((HRR.out.bs.below HB5.out).fch HA5.out hc6)
          have HU6 := Lib.hid ((HRR.out.cu.below HB5.out).fch HA5.out hc6)
          have HA6 := Lib.hid hr6
          have HC6 := Lib.hid (HCH5.out.trans hc6)
          clear hs6 hr6 hc6
          have et : errN true = 0 := rfl
          have ef : errN false = 2 := rfl
          cases ok with
          | false =>
            have hres := HRES.out
            rw [if_pos (.inl rfl)] at hres
            have HRES := Lib.hid hres
            clear hres
            go_wp2_with fail
            go_ret3
            rw [← HRES.out]
            exact ⟨rfl, HA6.out, HI2.out, HC6.out⟩
          | true =>
            by_cases hk2 : k2 = 0
            · subst hk2
              have hres := HRES.out
              rw [if_pos (.inr rfl)] at hres
              have HRES := Lib.hid hres
              clear hres
              go_wp2_with fail
              go_ret3
              rw [← HRES.out]
              exact ⟨rfl, HA6.out, HI2.out, HC6.out⟩
            · have hres := HRES.out
              rw [if_neg (by simp [hk2])] at hres
              have HRES := Lib.hid hres
              have hk0 : ((k2 : Int) == 0) = false := beq_eq_false_iff_ne.2 (by omega)
              have hNk : ¬ N < k2 := by have := HLE.out; omega
              obtain ⟨rest', hrest'⟩ : ∃ r, rest.drop k2 = r := ⟨_, rfl⟩
              have hM' : M - k2 = rest'.length := by rw [← hrest', List.length_drop, HM.out]
              have hsl2 := fun W => run_sliceFrom W b' M c' k2 (by have := HLE.out; have := HNM.out; omega)
              rw [hM'] at hsl2
              have HREL : Hid (RdRel w g gc B cuts (some ⟨cb, coff, none⟩) R w6 (fromA b' c' k2) (c' - k2) rest' (out ++ dt) (k + k2) (i + 1) f r2) := Lib.hid
                ⟨hrest' ▸ HB6.out.from c' k2 (by rw [HM.out]; exact HML.out.2.2.2.2), by have := HML.out; omega, fun e => by have := HRR.out.nn (fromA_none e); omega, HA6.out, HI2.out, HU6.out, HC6.out, by have := HML.out; omega, by have := HRR.out.len; have := HM.out; have := HLE.out; have := HNM.out; omega, by have := HRR.out.ik; omega, by have := HRR.out.ol; have := HLE.out; have := HNM.out; have := HML.out; rw [List.length_append, Nat.add_mul]; omega, by rw [← hrest']; exact HRES.out⟩
              have HLT : Hid (rest'.length < M) := Lib.hid (by have := HLE.out; have := HNM.out; omega)
              have hB1 : k + k2 ≤ 4611686018427387904 ∧ i ≤ 4611686018427387904 := by have := HML.out; have := HLE.out; have := HNM.out; omega
              have hinc : wrap64 ((i : Int) + 1) = ((i + 1 : Nat) : Int) := w1 i hB1.2
              have hadd : wrap64 ((k : Int) + (k2 : Int)) = ((k + k2 : Nat) : Int) := by
                obtain ⟨kk, hkk⟩ : ∃ kk, k + k2 = kk := ⟨_, rfl⟩
                have e1 : (k : Int) + (k2 : Int) = (kk : Int) := by rw [← hkk]; rfl
                rw [e1, hkk]
                rw [hkk] at hB1
                exact IntWalk.wrap64_in _ ⟨Int.le_trans (by decide) (Int.natCast_nonneg kk), Int.le_trans (Int.ofNat_le.2 hB1.1) (by decide)⟩
              have hcat : ¬ 9223372036854775807 < (bs out).size + dt.length := by
                rw [bs_size]
                have h1 := HRR.out.ol
                have h2 : i * 1048576 ≤ 1048576 * 1048576 := Nat.mul_le_mul_right _ HML.out.2.2.1
                have h3 : dt.length ≤ 1048576 := Nat.le_trans HLE.out.1 (Nat.le_trans HNM.out HML.out.1)
                exact Nat.not_lt.2 (Nat.le_trans (Nat.add_le_add (Nat.le_trans h1 h2) h3) (by decide))
              clear hres hk2 hrest' hM' hB1
              go_wp2_with fail
              go_roundw
              case rel =>
                exact ⟨_, _, rest', out ++ dt, k + k2, i + 1, f, r2, rfl, by rw [← bs_append]; rfl, congrArg (Value.int .i64) hadd, congrArg (Value.int .i64) hinc, HREL.out⟩
              case measure => exact HLT.out
        · have hNM : M = N := by
            rw [← hN]; unfold cutN; rw [List.getElem?_eq_none (by omega)]
          subst hNM
          clear hN
          go_wp2_with fail
          refine (fDone_calls wr g gc fr HRR.out.inv HRR.out.at_).mono ?_
          rintro e w' ⟨rfl, rfl⟩
          rw [HDN.out]
          have HW := Lib.hid (Ow.lit0 wr wr.heap.size (Nat.le_refl _))
          have HBW := Lib.hid ((Below.refl wr.heap.size wr).alloc (Nat.le_refl _) (.cells #[] 5))
          have HBs := Lib.hid (HBP.out.below HBW.out)
          have HNN := Lib.hid HRR.out.nn
          go_wp2_with (at_builtin; refine wp_app rfl _ _ rfl wr.heap.size (.slice (some ⟨wr.heap.size, 0, none⟩) 0 0) _ rfl HW.out b' _ _ rfl P HPN.out HBs.out HNN.out HS1.out HBW.out.size ?_; intro v5 w5 hown hgr _; have HB5 := Lib.hid (Below.own HBW.out HW.out hgr (Nat.le_refl _)); rw [List.nil_append] at hown; obtain ⟨a5, c5, rfl, hs5, hc5, -, hn5⟩ := hown.bs'; have HS5 := Lib.hid hs5; have HC5 := Lib.hid hc5; have HN5 := Lib.hid hn5; clear hown hgr HW hs5 hc5 hn5)
          try clear hrem hwz hwy hmin hcell hcut
          have HA5 := Lib.hid (HRR.out.at_.below HB5.out)
          have HCH5 := Lib.hid (HRR.out.ch.below HB5.out)
          refine (fTake_any w5 g gc fr HRR.out.inv HA5.out (errvar_fch HE.out HCH5.out HG.out HGG.out) HG.out a5 P (by have := HPN.out; have := HML.out; have := HNM.out; omega) c5 HC5.out HN5.out HS5.out).mono ?_
          rw [HQ.out]
          rintro e w6 ⟨a6, c6, rfl, hs6, hr6, hc6⟩
          have rs := run_str (n := dt.length) hs6 rfl c6
          have HB6 := Lib.hid ((HRR.out.bs.below HB5.out).fch HA5.out hc6)
          have HU6 := Lib.hid ((HRR.out.cu.below HB5.out).fch HA5.out hc6)
          have HA6 := Lib.hid hr6
          have HC6 := Lib.hid (HCH5.out.trans hc6)
          clear hs6 hr6 hc6
          have et : errN true = 0 := rfl
          have ef : errN false = 2 := rfl
          cases ok with
          | false =>
            have hres := HRES.out
            rw [if_pos (.inl rfl)] at hres
            have HRES := Lib.hid hres
            clear hres
            go_wp2_with fail
            go_ret3
            rw [← HRES.out]
            exact ⟨rfl, HA6.out, HI2.out, HC6.out⟩
          | true =>
            by_cases hk2 : k2 = 0
            · subst hk2
              have hres := HRES.out
              rw [if_pos (.inr rfl)] at hres
              have HRES := Lib.hid hres
              clear hres
              go_wp2_with fail
              go_ret3
              rw [← HRES.out]
              exact ⟨rfl, HA6.out, HI2.out, HC6.out⟩
            · have hres := HRES.out
              rw [if_neg (by simp [hk2])] at hres
              have HRES := Lib.hid hres
              have hk0 : ((k2 : Int) == 0) = false := beq_eq_false_iff_ne.2 (by omega)
              have hNk : ¬ M < k2 := by have := HLE.out; omega
              obtain ⟨rest', hrest'⟩ : ∃ r, rest.drop k2 = r := ⟨_, rfl⟩
              have hM' : M - k2 = rest'.length := by rw [← hrest', List.length_drop, HM.out]
              have hsl2 := fun W => run_sliceFrom W b' M c' k2 (by have := HLE.out; have := HNM.out; omega)
              rw [hM'] at hsl2
              have HREL : Hid (RdRel w g gc B cuts co R w6 (fromA b' c' k2) (c' - k2) rest' (out ++ dt) (k + k2) (i + 1) f r2) := Lib.hid
                ⟨hrest' ▸ HB6.out.from c' k2 (by rw [HM.out]; exact HML.out.2.2.2.2), by have := HML.out; omega, fun e => by have := HRR.out.nn (fromA_none e); omega, HA6.out, HI2.out, HU6.out, HC6.out, by have := HML.out; omega, by have := HRR.out.len; have := HM.out; have := HLE.out; have := HNM.out; omega, by have := HRR.out.ik; omega, by have := HRR.out.ol; have := HLE.out; have := HNM.out; have := HML.out; rw [List.length_append, Nat.add_mul]; omega, by rw [← hrest']; exact HRES.out⟩
              have HLT : Hid (rest'.length < M) := Lib.hid (by have := HLE.out; have := HNM.out; omega)
              have hB1 : k + k2 ≤ 4611686018427387904 ∧ i ≤ 4611686018427387904 := by have := HML.out; have := HLE.out; have := HNM.out; omega
              have hinc : wrap64 ((i : Int) + 1) = ((i + 1 : Nat) : Int) := w1 i hB1.2
              have hadd : wrap64 ((k : Int) + (k2 : Int)) = ((k + k2 : Nat) : Int) := by
                obtain ⟨kk, hkk⟩ : ∃ kk, k + k2 = kk := ⟨_, rfl⟩
                have e1 : (k : Int) + (k2 : Int) = (kk : Int) := by rw [← hkk]; rfl
                rw [e1, hkk]
                rw [hkk] at hB1
                exact IntWalk.wrap64_in _ ⟨Int.le_trans (by decide) (Int.natCast_nonneg kk), Int.le_trans (Int.ofNat_le.2 hB1.1) (by decide)⟩
              have hcat : ¬ 9223372036854775807 < (bs out).size + dt.length := by
                rw [bs_size]
                have h1 := HRR.out.ol
                have h2 : i * 1048576 ≤ 1048576 * 1048576 := Nat.mul_le_mul_right _ HML.out.2.2.1
                have h3 : dt.length ≤ 1048576 := Nat.le_trans HLE.out.1 (Nat.le_trans HNM.out HML.out.1)
                exact Nat.not_lt.2 (Nat.le_trans (Nat.add_le_add (Nat.le_trans h1 h2) h3) (by decide))
              clear hres hk2 hrest' hM' hB1
              go_wp2_with fail
              go_roundw
              case rel =>
                exact ⟨_, _, rest', out ++ dt, k + k2, i + 1, f, r2, rfl, by rw [← bs_append]; rfl, congrArg (Value.int .i64) hadd, congrArg (Value.int .i64) hinc, HREL.out⟩
              case measure => exact HLT.out
    · have HRES := HRR.out.res
      have hr0 : rest = [] := List.length_eq_zero_iff.1 (by have := HM.out; omega)
      have hRR : R = (out, k, true, fr) := by
        rw [← HRES]
        cases f with
        | zero => rfl
        | succ f => rw [readL, if_pos (.inl hr0)]
      have HRES := Lib.hid hRR
      clear hr0 hRR
      go_wp2_with fail
      go_ret3
      rw [HRES.out]
      exact ⟨rfl, HRR.out.at_, HRR.out.inv, HRR.out.ch⟩
end Go.Proofs.YteneioapchhehaaDoor
