/- Package chunk: the walk of a reader's Take. -/
import Derived.Test.YtiaafndkbcpbdaaDoorCkF
namespace Go.Proofs.YtiaafndkbcpbdaaDoor
open Go.RowKit

/-- what Take does -/
def takeA (r : Rd) (l : List UInt8) : Rd × List UInt8 × Nat × Bool := if r.st = 11 then (r, [], 0, false) else runA r l [] 0
def errN (b : Bool) : Int := if b then 0 else 2

def TkPost (w : World) (g : Nat) (q : Rd × List UInt8 × Nat × Bool) (e : Ending) (w' : World) : Prop :=
  ∃ ov, e = .returned (.tuple #[ov, .int .i64 q.2.2.1, .int .i64 (errN q.2.2.2)]) ∧ Ow w' w.heap.size ov q.2.1 ∧ RdAt w' g q.1 ∧ Ch (· = g) w w'

set_option maxHeartbeats 400000 in
theorem Take_broken (w : World) (g : Nat) (r : Rd) (hr : r.st = 11) (h : RdAt w g r) (v : Value) :
    Calls Tryd.prog 12 #[.pointer (some ⟨g, 0, none⟩), v] w (TkPost w g (r, [], 0, false)) := by
  have c0 := h.cells.1
  rw [hr] at c0
  clear hr
  have H := Lib.hid h
  clear h
  go_enter Tryd.func12, Tryd.ntmps12
  go_wp2_with fail
  go_ret3
  exact ⟨_, rfl, Ow.nil _ _, H.out, Ch.refl _ _⟩

theorem RdAt.ne {w : World} {g : Nat} {r : Rd} (h : RdAt w g r) {ao : Option Addr} {l : List UInt8} (hb : Bs w ao l) : ∀ b off, ao = some ⟨b, off, none⟩ → 0 < l.length → ¬ b = g := by
  rintro b off rfl hl
  refine hb.ne hl h ?_
  intro i k x
  rcases i with _ | _ | _ | _ | i <;> simp
  all_goals (rintro rfl; simp)

theorem RdI.take_st {r : Rd} (h : RdI r) (c : Int) (hr : r.st ≤ 10) (hb : (takeS r c).2 = true) : (takeS r c).1.st ≤ 10 := by
  have h1 := h.st
  have he : ∀ a b n, n ≤ 10 → (expectS r a b n).1.st ≤ 10 := by
    intro a b n hn; unfold expectS; split
    · exact hn
    · exact hr
  have hs : sizedN r.lf ≤ 10 := by unfold sizedN; split <;> omega
  unfold takeS at hb ⊢
  repeat' split
  all_goals first
    | exact hr
    | (exact he _ _ _ (by omega))
    | (dsimp only [moreS]; omega)

theorem RdAt.grown {w w' : World} {g : Nat} {r : Rd} {row : Option Nat} (h : RdAt w g r) (hg : w.grownBy w' row) (hne : ∀ k, row = some k → k ≠ g) : RdAt w' g r :=
  (hg.block g (lt_of_block h) (fun e => hne g e.symm rfl)).trans h
theorem Ch.own {S : Nat → Prop} {a w w' : World} {B : Nat} {v : Value} {l : List UInt8} (h : Ch S a w) (ho : Ow w B v l) (hg : w.grownBy w' v.ownBlock) (hB : a.heap.size ≤ B) : Ch S a w' :=
  h.grown hg fun k hk => .inr (Nat.le_trans hB (ho.ge k hk).1)

theorem RdI.dataN {r : Rd} (h : RdI r) (hs : r.st = 3) (m : Nat) (hm1 : 1 ≤ m) (hm : (m : Int) ≤ r.lf) : RdI { r with lf := r.lf - m, st := if r.lf - m = 0 then 4 else 3 } := by
  have hl := h.sl (by omega)
  have hmn := h.sm (by omega)
  have hlf := h.lf
  split
  · exact ⟨by dsimp only; omega, h.ln, h.mn, by dsimp only; omega, fun hx => absurd hx (by dsimp only; omega), fun hx => absurd hx (by dsimp only; omega), fun _ => by dsimp only; omega, fun _ => hl, fun _ => hmn⟩
  · exact ⟨by dsimp only; omega, h.ln, h.mn, by dsimp only; omega, fun hx => absurd hx (by dsimp only; omega), fun _ => by dsimp only; omega, fun hx => absurd hx (by dsimp only; omega), fun _ => hl, fun _ => hmn⟩

/-- the loop's relation -/
def TkRel (w : World) (g : Nat) (l : List UInt8) (q : Rd × List UInt8 × Nat × Bool) (k : Nat) (vo : Value) (wr : World) : Prop :=
  ∃ r out, k ≤ l.length ∧ RdI r ∧ r.st ≤ 10 ∧ RdAt wr g r ∧ Ow wr w.heap.size vo out ∧ out.length ≤ k ∧ Ch (· = g) w wr ∧ runA r (l.drop k) out k = q

set_option maxHeartbeats 1000000 in
set_option maxRecDepth 100000 in
theorem Take_run (w : World) (g : Nat) (r : Rd) (hi : RdI r) (hr : r.st ≤ 10) (h : RdAt w g r) (hE : ErrVar 1 w) (hg : 1 < g) (ao : Option Addr) (l : List UInt8) (hl : l.length ≤ 1099511627776) (c : Nat) (hc : l.length ≤ c) (hb : Bs w ao l) :
    Calls Tryd.prog 12 #[.pointer (some ⟨g, 0, none⟩), .slice ao l.length c] w (TkPost w g (runA r l [] 0)) := by
  have c0 := h.cells.1
  have hne : (r.st == 11) = false := by simp; omega
  have HR := Lib.hid (⟨r, [], Nat.zero_le _, hi, hr, h, Ow.nil _ _, Nat.le_refl _, Ch.refl _ _, by rw [List.drop_zero]⟩ : TkRel w g l (runA r l [] 0) 0 (.slice none 0 0) w)
  generalize runA r l [] 0 = q at *
  have HN := Lib.hid (h.ne hb)
  have hgs := lt_of_block h
  have HB := Lib.hid hb
  have HE := Lib.hid hE
  clear h hi hr hb hE
  go_enter Tryd.func12, Tryd.ntmps12
  go_wp2_with fail
  clear c0 hne
  go_loopw [7, 8] (fun vo va wr => ∃ k : Nat, va = .int .i64 k ∧ TkRel w g l q k vo wr) (fun _ va _ => l.length - (intOf va).toNat)
  case atStart => exact ⟨0, rfl, HR.out⟩
  case round =>
    obtain ⟨k, rfl, r1, out, hk, hi, hr, h, ho, hol, hch, hq⟩ := hrel
    clear HR
    have c0 := h.cells.1
    by_cases hkl : k < l.length
    · obtain ⟨b, off, hao⟩ := HB.out.some_of (by omega)
      subst hao
      have hbs := HB.out.ch hch HN.out
      by_cases h10 : r1.st = 10
      · rw [h10] at c0
        have Hq : Hid (q = (r1, out, k, true)) := Lib.hid (by rw [← hq, List.drop_eq_getElem_cons hkl, runA, if_pos h10])
        have HO := Lib.hid ho
        have HH := Lib.hid h
        have HC := Lib.hid hch
        clear ho h hch hq hi hr h10 hbs HE
        go_wp2_with fail
        go_ret3
        exact ⟨_, by rw [Hq.out]; rfl, by rw [Hq.out]; exact HO.out, by rw [Hq.out]; exact HH.out, HC.out⟩
      · have hne10 : (r1.st != 10) = true := by simpa using h10
        by_cases h3 : r1.st = 3
        · rw [h3] at c0
          have c3 := h.cells.2.2.2.1
          have f0 := h.cells.2.2.2.2.1
          have f3 := h.cells.2.2.2.2.2.2.2
          have hlf1 := hi.s3 h3
          have hlf2 := hi.lf
          obtain ⟨m, hm⟩ : ∃ m : Nat, min r1.lf ((l.length : Int) - k) = (m : Int) := ⟨(min r1.lf ((l.length : Int) - k)).toNat, by omega⟩
          have hm1 : 1 ≤ m := by omega
          have hm2 : (m : Int) ≤ r1.lf := by omega
          have hm3 : k + m ≤ l.length := by omega
          have hsl : ((k : Int) + m).toNat - k = m := by omega
          have hkc : ¬ c = k := by omega
          have HQ := Lib.hid hq
          have HI := Lib.hid hi
          have Hh := Lib.hid h
          have Hc := Lib.hid hch
          have Ho := Lib.hid ho
          have HBS := Lib.hid ((hbs.drop k).take m)
          have HL : Hid ((List.take m (List.drop k l)).length = m) := Lib.hid (by rw [List.length_take, List.length_drop]; omega)
          have H3 := Lib.hid h3
          have HS : Hid (out.length + m ≤ 70368744177664) := Lib.hid (by omega)
          clear hq hi h hch ho hbs HE HN h10 h3 hr hlf1
          have HN2 : Hid (∀ k, u7.ownBlock = some k → k ≠ g) := Lib.hid (fun k hk => by have := (Ho.out.ge k hk).1; omega)
          have HR : Hid (runA { r1 with lf := r1.lf - m, st := if r1.lf - m = 0 then 4 else 3 } (l.drop (k + m)) (out ++ (l.drop k).take m) (k + m) = q) := Lib.hid (by
            have := runA_data m r1 (l.drop k) out k H3.out hm1 hm2 (by rw [List.length_drop]; omega)
            rw [List.drop_drop] at this
            rw [← this]; exact HQ.out)
          have HI2 : Hid (RdI { r1 with lf := r1.lf - m, st := if r1.lf - m = 0 then 4 else 3 }) := Lib.hid (HI.out.dataN H3.out m hm1 hm2)
          by_cases hz : r1.lf - m = 0
          · have hz' : (r1.lf - (m : Int) == 0) = true := by simpa using hz
            rw [if_pos hz] at HR HI2
            have Hz := Lib.hid hz
            clear hz
            go_wp2_with (at_builtin; (refine wp_app rfl _ _ rfl _ u7 _ rfl Ho.out _ _ _ rfl _ HL.out HBS.out nofun HS.out Hc.out.size ?_); intro v' w1 hown hgr _; have h1 := Hh.out.grown hgr HN2.out; have c0 := h1.cells.1; have c3 := h1.cells.2.2.2.1; have f0 := h1.cells.2.2.2.2.1; have f3 := h1.cells.2.2.2.2.2.2.2; have H1 := Lib.hid h1; have HO := Lib.hid hown; have HG := Lib.hid hgr; clear hown hgr h1)
            go_roundw
            case rel =>
              refine ⟨k + m, by go_num, _, _, by omega, HI2.out, (by dsimp only; omega), (H1.out.set3 _).set0 4, (HO.out.ch (ch_set2 w1 g 3 0 _ _) fun b hb hbg => ?_), ?_, ?_, HR.out⟩
              · have h1 := (HO.out.ge b hb).1; have h2 : b = g := hbg; omega
              · rw [List.length_append, HL.out]; omega
              · exact Ch.set (S := (· = g)) (Ch.set (S := (· = g)) (Hc.out.own Ho.out HG.out (Nat.le_refl _)) (.inl rfl) _) (.inl rfl) _
            case measure => simp [intOf]; omega
          · have hz' : (r1.lf - (m : Int) == 0) = false := by simpa using hz
            rw [if_neg hz] at HR HI2
            clear hz
            go_wp2_with (at_builtin; (refine wp_app rfl _ _ rfl _ u7 _ rfl Ho.out _ _ _ rfl _ HL.out HBS.out nofun HS.out Hc.out.size ?_); intro v' w1 hown hgr _; have h1 := Hh.out.grown hgr HN2.out; have c0 := h1.cells.1; have c3 := h1.cells.2.2.2.1; have f0 := h1.cells.2.2.2.2.1; have f3 := h1.cells.2.2.2.2.2.2.2; have H1 := Lib.hid h1; have HO := Lib.hid hown; have HG := Lib.hid hgr; clear hown hgr h1)
            go_roundw
            case rel =>
              refine ⟨k + m, by go_num, _, _, by omega, HI2.out, (by dsimp only; omega), (by have := H1.out.set3 (r1.lf - m); exact H3.out ▸ this), (HO.out.ch (ch_set1 w1 g 3 _) fun b hb hbg => ?_), ?_, ?_, HR.out⟩
              · have h1 := (HO.out.ge b hb).1; have h2 : b = g := hbg; omega
              · rw [List.length_append, HL.out]; omega
              · exact Ch.set (S := (· = g)) (Hc.out.own Ho.out HG.out (Nat.le_refl _)) (.inl rfl) _
            case measure => simp [intOf]; omega
        · have hne3 : (r1.st == 3) = false := by simpa using h3
          have hcell := hbs.cell k hkl
          have hlt := UInt8.toNat_lt l[k]
          have hdrop := List.drop_eq_getElem_cons hkl
          have htake := take_calls wr g r1 hi.ok h (HE.out.ch hch (by omega)) (l[k].toNat : Int) (by omega)
          generalize hx : l[k] = x at *
          have Hh := Lib.hid h
          have Hc := Lib.hid hch
          have Ho := Lib.hid ho
          have HI := Lib.hid hi
          have HT := Lib.hid htake
          by_cases hb2 : (takeS r1 (x.toNat : Int)).2 = true
          · have Hq : Hid (runA (takeS r1 x.toNat).1 (l.drop (k + 1)) out (k + 1) = q) := Lib.hid (by rw [← hq, hdrop, runA, if_neg h10, if_neg h3, if_pos hb2])
            have Hb2 := Lib.hid hb2
            have Hr := Lib.hid hr
            clear hb2 hq htake h hch ho hi hx hdrop hbs HE h10 h3 hlt hr
            go_wp2_with fail
            refine HT.out.mono ?_
            rintro e w1 ⟨he, h1, hch1⟩
            rw [Hb2.out] at he
            subst he
            have Hh1 := Lib.hid h1
            have Hc1 := Lib.hid (Hc.out.trans hch1)
            have Ho1 := Lib.hid (Ho.out.ch hch1 (fun b hb hbg => by have h1 := (Ho.out.ge b hb).1; have h2 : b = g := hbg; omega))
            clear h1 hch1 c0
            go_wp2_with fail
            go_roundw
            case rel => exact ⟨k + 1, by go_num, _, out, by omega, HI.out.take _ Hb2.out, HI.out.take_st _ Hr.out Hb2.out, Hh1.out, Ho1.out, by omega, Hc1.out, Hq.out⟩
            case measure => simp [intOf]; omega
          · have Hq : Hid (q = ({ (takeS r1 x.toNat).1 with st := 11 }, [], k, false)) := Lib.hid (by rw [← hq, hdrop, runA, if_neg h10, if_neg h3, if_neg hb2])
            have Hb2 := Lib.hid (Bool.not_eq_true _ ▸ hb2 : (takeS r1 (x.toNat : Int)).2 = false)
            clear hb2 hq htake h hch ho hi hx hdrop hbs HE h10 h3 hlt hr
            go_wp2_with fail
            refine HT.out.mono ?_
            rintro e w1 ⟨he, h1, hch1⟩
            rw [Hb2.out] at he
            subst he
            have c1 := h1.cells.1
            have f1 := h1.cells.2.2.2.2.1
            have Hh1 := Lib.hid h1
            have Hc1 := Lib.hid (Hc.out.trans hch1)
            clear h1 hch1 c0
            go_wp2_with fail
            go_ret3
            exact ⟨_, by rw [Hq.out]; rfl, by rw [Hq.out]; exact Ow.nil _ _, by rw [Hq.out]; exact Hh1.out.set0 11, Hc1.out.set (.inl rfl) _⟩
    · have hke : k = l.length := by omega
      subst hke
      have Hq : Hid (q = (r1, out, l.length, true)) := Lib.hid (by rw [← hq, List.drop_of_length_le (Nat.le_refl _), runA])
      have HO := Lib.hid ho
      have HH := Lib.hid h
      have HC := Lib.hid hch
      clear ho h hch hq hi hr HE
      go_wp2_with fail
      go_ret3
      exact ⟨_, by rw [Hq.out]; rfl, by rw [Hq.out]; exact HO.out, by rw [Hq.out]; exact HH.out, HC.out⟩
end Go.Proofs.YtiaafndkbcpbdaaDoor
