/- ChunkJoins: the law's walk. -/
import Derived.Test.YtiaafndkbcpbdaaDoorCkN
import Derived.Test.YtiaafndkbcpbdaaDoorBaseB
import Derived.Test.YtiaafndkbcpbdaaDoorOpen
namespace Go.Proofs.YtiaafndkbcpbdaaDoor
open Go.RowKit

/-- the bytes of the slices -/
def bytesOf (ls : List (Option Addr × List UInt8 × Nat)) : List (List UInt8) := ls.map (·.2.1)
theorem Bss.below {w w' : World} {ao : Option Addr} {ls : List (Option Addr × List UInt8 × Nat)} (h : Bss w ao ls) (hb : Below w.heap.size w w') : Bss w' ao ls :=
  ⟨h.1, fun ad had j x hj => by
    obtain ⟨h1, h2, h3⟩ := h.2 ad had j x hj
    refine ⟨?_, h2.below hb, h3⟩
    rw [hb.cell (World.block_lt_of_cell? w _ h1)]
    exact h1⟩

def JoRel (w : World) (ls : List (Option Addr × List UInt8 × Nat)) (k : Nat) (v3 v4 : Value) (wr : World) : Prop :=
  ∃ out wnt, k ≤ ls.length ∧ out = putsL (bytesOf (ls.take k)) ∧ wnt = (bytesOf (ls.take k)).flatten ∧ Ow wr w.heap.size v3 out ∧ Ow wr w.heap.size v4 wnt ∧ (∀ b, v3.ownBlock = some b → v4.ownBlock ≠ some b) ∧
    Below w.heap.size w wr ∧ wnt.length ≤ 600 ∧ out.length ≤ wnt.length + 16 * k ∧ (1 ≤ k → ls.length ≤ 100)

set_option maxHeartbeats 2000000 in
set_option maxRecDepth 100000 in
theorem Joins_calls (w : World) (hG : Gv w) (ao : Option Addr) (ls : List (Option Addr × List UInt8 × Nat)) (c : Nat) (hlc : ls.length ≤ c) (h1 : Bss w ao ls) (hr : ls.length ≤ reachBytes) :
    Calls Tryd.prog 8 #[.slice ao ls.length c] w fun e w' => e = .returned (.bool true) ∧ Below w.heap.size w w' := by
  have H1 := Lib.hid h1
  have HG := Lib.hid hG
  have HX := Lib.hid hG.lt
  have hrb : reachBytes ≤ 140737488355328 := by decide
  have HC : Hid (ls.length ≤ 140737488355328) := Lib.hid (Nat.le_trans hr hrb)
  clear h1 hG hlc hr hrb
  have et : errN true = 0 := rfl
  go_enter Tryd.func8, Tryd.ntmps8
  go_wp2_with fail
  refine (wakes_calls _ HG.out).mono ?_
  rintro e w1 ⟨rfl, hb1⟩
  have HB1 := Lib.hid hb1
  clear hb1
  go_wp2_with fail
  go_loopw [3, 4, 15] (fun v3 v4 v15 wr => ∃ k : Nat, v15 = .int .i64 k ∧ JoRel w ls k v3 v4 wr) (fun _ _ v15 _ => ls.length - (intOf v15).toNat)
  case atStart => exact ⟨0, rfl, [], [], Nat.zero_le _, rfl, rfl, Ow.nil _ _, Ow.nil _ _, nofun, HB1.out, Nat.zero_le _, Nat.zero_le _, fun h => by omega⟩
  case round =>
    obtain ⟨k, rfl, out, wnt, hk, ho, hw, h3, h4, hne, hb, hwl, hol, h100⟩ := hrel
    by_cases hkl : k < ls.length
    · obtain ⟨ad, had⟩ : ∃ ad, ao = some ad := by
        cases ao with
        | none => have := H1.out.1 rfl; rw [this] at hkl; simp at hkl
        | some ad => exact ⟨ad, rfl⟩
      subst had
      obtain ⟨⟨bo, b, cb⟩, hx⟩ : ∃ x, ls[k]? = some x := ⟨_, List.getElem?_eq_getElem hkl⟩
      obtain ⟨hcell, hbs, hbc, hbn, hbm⟩ := (H1.out.below hb).2 ad rfl k _ hx
      dsimp only at hcell hbs hbc hbn hbm
      obtain ⟨bb, off, sp⟩ := ad
      have hsp : sp = none := by
        have := World.cell?_spot (H1.out.2 _ rfl 0 _ (List.getElem?_eq_getElem (by omega))).1
        simpa [Addr.add] using this
      subst hsp
      rw [Addr.add_lit] at hcell
      obtain ⟨a4, c4, rfl, -, -, -, -⟩ := h4.bs'
      have hbs0 := ((H1.out).2 _ rfl k _ hx).2.1
      dsimp only at hbs0
      have hts : bytesOf (ls.take (k + 1)) = bytesOf (ls.take k) ++ [b] := by
        unfold bytesOf
        rw [List.take_add_one, hx]
        simp
      have hw0 : wrap64 ((wnt.length : Int) + (b.length : Int)) = (wnt.length : Int) + (b.length : Int) := by
        have hrb : reachBytes ≤ 140737488355328 := by decide
        exact IntWalk.wrap64_in _ (by omega)
      by_cases hbig : 600 < wnt.length + b.length
      · have t1 : decide ((600 : Int) < (wnt.length : Int) + (b.length : Int)) = true := decide_eq_true (by omega)
        have HB := Lib.hid hb
        clear ho hw h3 h4 hne hb hwl hol h100 hbs hbs0 hbc hbn hbm hts hx hbig hk
        go_wp2_with fail
        go_ret
        exact ⟨rfl, HB.out⟩
      · have t1 : decide ((600 : Int) < (wnt.length : Int) + (b.length : Int)) = false := decide_eq_false (by omega)
        by_cases hmany : 100 < ls.length
        · have t2 : decide ((100 : Int) < (ls.length : Int)) = true := decide_eq_true (by omega)
          have HB := Lib.hid hb
          clear ho hw h3 h4 hne hb hwl hol h100 hbs hbs0 hbc hbn hbm hts hx hbig hk hmany
          go_wp2_with fail
          go_ret
          exact ⟨rfl, HB.out⟩
        · have t2 : decide ((100 : Int) < (ls.length : Int)) = false := decide_eq_false (by omega)
          have H3 := Lib.hid h3
          have H4 := Lib.hid h4
          have HNE := Lib.hid hne
          have HB := Lib.hid hb
          have HBS := Lib.hid hbs0
          have HBC := Lib.hid hbc
          have HBN := Lib.hid hbn
          have HTS := Lib.hid hts
          have HO := Lib.hid ho
          have HW := Lib.hid hw
          have HKL := Lib.hid hkl
          have HN : Hid (wnt.length + b.length ≤ 600 ∧ out.length ≤ wnt.length + 16 * k ∧ ls.length ≤ 100) := Lib.hid (by omega)
          clear ho hw h3 h4 hne hb hwl hol h100 hbs hbs0 hbc hbn hbm hts hx hbig hk hmany
          go_wp2_with fail
          refine (Put_calls _ (HG.out.below HB.out).tz bo b cb (by have := HN.out; omega) (HBS.out.below HB.out)).mono ?_
          rintro e w2 ⟨ov2, rfl, ho2, hb2⟩
          obtain ⟨a2, c2, rfl, hs2, -, hge2, hn2⟩ := ho2.bs'
          have HPL : Hid ((putL b).length ≤ b.length + 16) := Lib.hid (putL_len b (by have := HN.out; omega))
          have HS1 : Hid (out.length + (putL b).length ≤ 70368744177664) := Lib.hid (by have := HN.out; have := HPL.out; omega)
          have HS2 : Hid (wnt.length + b.length ≤ 70368744177664) := Lib.hid (by have := HN.out; omega)
          have HB2 := Lib.hid (HB.out.trans (hb2.mono HB.out.size))
          have H3 := Lib.hid (H3.out.below hb2)
          have H4 := Lib.hid (H4.out.below hb2)
          have HP := Lib.hid hs2
          have HPN := Lib.hid hn2
          clear ho2 hb2 hs2 hge2 hn2
          go_wp2_with (first
            | (at_builtin; refine wp_app rfl _ _ rfl w.heap.size u3 _ rfl H3.out a2 _ _ rfl (putL b) rfl HP.out HPN.out HS1.out HB2.out.size ?_; intro v5 w5 hown hgr hal; have HB5 := Lib.hid (Below.own HB2.out H3.out hgr (Nat.le_refl _)); have HO5 := Lib.hid hown; have HNE5 := Lib.hid (show ∀ q, v5.ownBlock = some q → (Value.slice a4 wnt.length c4).ownBlock ≠ some q from fun q hq e => (hal.2 q hq).elim (fun h => HNE.out q h e) (fun h => Nat.not_lt_of_le h (H4.out.ge q e).2)); have H4 := Lib.hid (show Ow w5 w.heap.size _ wnt from RowO.keep H4.out fun k hk => hgr.block k (H4.out.ge k hk).2 (fun e => HNE.out k e.symm hk)); clear hown hgr hal)
            | (at_builtin; refine wp_app rfl _ _ rfl w.heap.size (.slice a4 wnt.length c4) _ rfl H4.out bo _ _ rfl b rfl (HBS.out.below HB5.out) HBN.out HS2.out HB5.out.size ?_; intro v6 w6 hown hgr hal; have HB6 := Lib.hid (Below.own HB5.out H4.out hgr (Nat.le_refl _)); have HO6 := Lib.hid hown; have HNE6 := Lib.hid (show ∀ q, v5.ownBlock = some q → v6.ownBlock ≠ some q from fun q hq e => (hal.2 q e).elim (fun h => HNE5.out q hq h) (fun h => Nat.not_lt_of_le h (HO5.out.ge q hq).2)); have HO5 := Lib.hid (show Ow w6 w.heap.size v5 _ from RowO.keep HO5.out fun k hk => hgr.block k (HO5.out.ge k hk).2 (fun e => HNE5.out k hk e.symm)); clear hown hgr hal))
          go_roundw
          case rel =>
            have hk1 : ls.length ≤ 100 := HN.out.2.2
            have hk2 : wrap64 ((k : Int) + 1) = ((k + 1 : Nat) : Int) := by rw [IntWalk.wrap64_in _ (by omega)]; rfl
            refine ⟨k + 1, by rw [hk2], _, _, HKL.out, by rw [HTS.out, HO.out]; unfold putsL; simp, by rw [HTS.out, HW.out]; simp, HO5.out, HO6.out, HNE6.out, HB6.out, ?_, ?_, fun _ => hk1⟩
            · rw [List.length_append]; exact HN.out.1
            · rw [List.length_append, List.length_append]; have := HN.out; have := HPL.out; omega
          case measure =>
            have hk1 : ls.length ≤ 100 := HN.out.2.2
            have hk2 : wrap64 ((k : Int) + 1) = ((k + 1 : Nat) : Int) := by rw [IntWalk.wrap64_in _ (by omega)]; rfl
            have := HKL.out
            rw [hk2]
            simp [intOf]; omega
    · have hkk : k = ls.length := by omega
      subst hkk
      have hol2 : out.length ≤ 2200 := by
        by_cases h0 : 1 ≤ ls.length
        · have := h100 h0; omega
        · omega
      rw [List.take_length] at ho hw
      have hq := takeA_puts (bytesOf ls) (fun l hl => by
        have e : (16 : Nat) ^ 12 = 281474976710656 := by decide
        have h1 : l.length ≤ ((bytesOf ls).flatten).length := by
          obtain ⟨s, t, e⟩ := List.append_of_mem hl
          rw [e]; simp; omega
        rw [← hw] at h1
        omega) []
      rw [List.append_nil, ← ho, ← hw] at hq
      obtain ⟨M, hM⟩ : ∃ M, out ++ lastL = M := ⟨_, rfl⟩
      rw [hM] at hq
      have hML : M.length ≤ 2205 := by rw [← hM, List.length_append]; have : lastL.length = 5 := rfl; omega
      obtain ⟨a4, c4, rfl, hs4, -, -, -⟩ := h4.bs'
      have HQ := Lib.hid hq
      have HG3 := Lib.hid h3.ge
      have HG4 := Lib.hid h4.ge
      have HNE := Lib.hid hne
      have HM := Lib.hid hM
      have HML := Lib.hid hML
      have H3 := Lib.hid h3
      have HS4 := Lib.hid hs4
      have HB := Lib.hid hb
      have HOL : Hid (out.length + lastL.length ≤ 70368744177664) := Lib.hid (by have : lastL.length = 5 := rfl; omega)
      clear ho hw h3 h4 hne hb hwl hol h100 hol2 hq hM hML hs4 hk
      go_wp2_with fail
      refine (New_calls _).mono ?_
      rintro e w2 ⟨rfl, hr2, hb2⟩
      have HR2 := Lib.hid hr2
      have HZ2 := Lib.hid HB.out.size
      have HB2 := Lib.hid (HB.out.trans (hb2.mono HB.out.size))
      have H3 := Lib.hid (H3.out.below hb2)
      have HS4 := Lib.hid (HS4.out.below hb2)
      clear hr2 hb2
      go_wp2_with fail
      refine (Last_calls _).mono ?_
      rintro e w3 ⟨ov3, rfl, ho3, hb3⟩
      obtain ⟨a3, c3, rfl, hs3, -, -, hn3⟩ := ho3.bs'
      have HB3 := Lib.hid (HB2.out.trans (hb3.mono HB2.out.size))
      have HP := Lib.hid hs3
      have HPN := Lib.hid hn3
      have H3 := Lib.hid (H3.out.below hb3)
      have HR2 := Lib.hid (HR2.out.below hb3)
      have HS4 := Lib.hid (HS4.out.below hb3)
      clear ho3 hb3 hs3 hn3
      go_wp2_with (first
        | (at_builtin; refine wp_app rfl _ _ rfl w.heap.size u3 _ rfl H3.out a3 _ _ rfl lastL rfl HP.out HPN.out HOL.out HB3.out.size ?_; intro v5 w5 hown hgr _; have HB5 := Lib.hid (Below.own HB3.out H3.out hgr (Nat.le_refl _)); rw [HM.out] at hown; obtain ⟨a5, c5, rfl, hs5, hc5, -, -⟩ := hown.bs'; have HS5 := Lib.hid hs5; have HC5 := Lib.hid hc5; have HR5 := Lib.hid (show RdAt w5 wr.heap.size _ from (hgr.block _ (lt_of_block HR2.out) (fun e => Nat.lt_irrefl _ (HG3.out _ e.symm).2)).trans HR2.out); have HS4 := Lib.hid (HS4.out.block fun b off hb hl => hgr.block b (by subst hb; exact HS4.out.block_lt hl) (fun e => HNE.out b e.symm (by subst hb; rfl))); clear hown hgr hs5 hc5))
      refine (Take_calls _ wr.heap.size ⟨0, 0, 0, 0⟩ RdI.zero HR5.out (HG.out.below HB5.out).es (Nat.lt_of_lt_of_le HX.out.2 HZ2.out) a5 M (Nat.le_trans HML.out (by decide)) c5 HC5.out HS5.out).mono ?_
      rw [HQ.out]
      rintro e w6 ⟨ov6, rfl, ho6, hr6, hc6⟩
      obtain ⟨a6, c6, rfl, hs6, -, -, -⟩ := ho6.bs'
      have HB6 := Lib.hid (Below.ch HB5.out hc6 (fun k hk => Nat.le_trans HZ2.out (Nat.le_of_eq hk.symm)) HB5.out.size)
      have HR6 := Lib.hid hr6
      have HS6 := Lib.hid hs6
      have HS4 := Lib.hid (HS4.out.ch hc6 (fun b off hb _ hk => by subst hb; have := (HG4.out b rfl).2; omega))
      clear hr6 hc6 ho6 hs6
      go_wp2_with (first
        | (go_at_call 14; with_reducible refine (same_calls _ _ _ _ _ _ _ HS6.out HS4.out).mono ?_; rintro e w' ⟨rfl, rfl⟩)
        | (go_at_call 15; with_reducible refine (Done_calls _ _ _ HR6.out).mono ?_; rintro e w' ⟨rfl, rfl⟩))
      go_ret
      exact ⟨rfl, HB6.out⟩
end Go.Proofs.YtiaafndkbcpbdaaDoor
