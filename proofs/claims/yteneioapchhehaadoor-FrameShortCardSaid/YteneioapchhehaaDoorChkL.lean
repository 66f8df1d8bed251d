/- A chunked body, dealt by cuts, is read as it would be at once (plain law). -/
import Derived.Test.YteneioapchhehaaDoorFrR
namespace Go.Proofs.YteneioapchhehaaDoor
open Go.RowKit

theorem runA_mono : ∀ (l : List UInt8) (r : Rd) (out : List UInt8) (k : Nat), k ≤ (runA r l out k).2.2.1
  | [], r, out, k => Nat.le_refl _
  | c :: l, r, out, k => by
    rw [runA]
    split
    · exact Nat.le_refl _
    · split
      · exact Nat.le_trans (Nat.le_succ k) (runA_mono l _ _ _)
      · split
        · exact Nat.le_trans (Nat.le_succ k) (runA_mono l _ _ _)
        · exact Nat.le_refl _
theorem runA_all : ∀ (l : List UInt8) (r : Rd) (out : List UInt8) (k : Nat), (runA r l out k).2.2.2 = true → ¬ (runA r l out k).1.st = 10 → (runA r l out k).2.2.1 = k + l.length
  | [], r, out, k, _, _ => rfl
  | c :: l, r, out, k, h, h10 => by
    rw [runA] at h h10 ⊢
    split
    · rename_i hr; rw [if_pos hr] at h10; exact absurd hr h10
    · rename_i hr
      rw [if_neg hr] at h h10
      split
      · rename_i h3
        rw [if_pos h3] at h h10
        rw [runA_all l _ _ _ h h10, List.length_cons]; omega
      · rename_i h3
        rw [if_neg h3] at h h10
        split
        · rename_i hb
          rw [if_pos hb] at h h10
          rw [runA_all l _ _ _ h h10, List.length_cons]; omega
        · rename_i hb
          rw [if_neg hb] at h; cases h
theorem runA_some (c : UInt8) (l : List UInt8) (r : Rd) (out : List UInt8) (k : Nat) (hr : ¬ r.st = 10) (h : (runA r (c :: l) out k).2.2.2 = true) : k + 1 ≤ (runA r (c :: l) out k).2.2.1 := by
  rw [runA, if_neg hr] at h ⊢
  split
  · exact runA_mono l _ _ _
  · rename_i h3
    rw [if_neg h3] at h
    split
    · exact runA_mono l _ _ _
    · rename_i hb
      rw [if_neg hb] at h; cases h

theorem frTake_2 (L : Int) (r : Rd) (P : List UInt8) : frTake ⟨2, L, false, r⟩ P = (⟨2, L, false, (takeA r P).1⟩, (takeA r P).2) := by
  unfold frTake
  rw [if_neg (by simp), if_pos rfl]

theorem readL_chunk (cuts : BL) : ∀ (f : Nat) (r : Rd) (rest : BL) (i : Nat) (out : BL) (k : Nat), RdI r → rest.length ≤ f → (takeA r rest).2.2.2 = true → (takeA r rest).1.st = 10 →
    readL cuts f ⟨2, 0, false, r⟩ rest i out k = (out ++ (takeA r rest).2.1, k + (takeA r rest).2.2.1, true, ⟨2, 0, false, (takeA r rest).1⟩) := by
  intro f
  induction f with
  | zero =>
    intro r rest i out k hi hf hok h10
    have h0 : rest = [] := List.length_eq_zero_iff.1 (by omega)
    subst h0
    have h11 : ¬ r.st = 11 := by intro e; rw [takeA_broken e] at hok; cases hok
    have e1 : takeA r [] = (r, [], 0, true) := if_neg h11
    rw [e1]
    simp [readL]
  | succ f ih =>
    intro r rest i out k hi hf hok h10
    have h11 : ¬ r.st = 11 := by intro e; rw [takeA_broken e] at hok; cases hok
    unfold readL
    by_cases hr : r.st = 10
    · have hd : frDone ⟨2, 0, false, r⟩ = true := by show (r.st == 10) = true; rw [hr]; rfl
      rw [if_pos (.inr hd), takeA_done hr]
      simp
    · by_cases hne : rest = []
      · subst hne
        have e1 : takeA r [] = (r, [], 0, true) := if_neg h11
        rw [e1] at h10
        exact absurd h10 hr
      · have hd : ¬ frDone ⟨2, 0, false, r⟩ = true := by show ¬ (r.st == 10) = true; simpa using hr
        have hrp : 0 < rest.length := List.length_pos_iff.2 hne
        obtain ⟨N, hN⟩ : ∃ N, cutN cuts i rest.length = N := ⟨_, rfl⟩
        have hN1 : N ≤ rest.length := hN ▸ cutN_le _ _ _
        have hN0 : 0 < N := hN ▸ cutN_pos _ _ _ hrp
        rw [if_neg (by rintro (h | h); exact hne h; exact hd h), hN, frTake_2]
        dsimp only
        have hsp : rest.take N ++ rest.drop N = rest := List.take_append_drop N rest
        have hPok : (takeA r (rest.take N)).2.2.2 = true := by
          cases h : (takeA r (rest.take N)).2.2.2 with
          | true => rfl
          | false => have := takeA_app_er (rest.take N) (rest.drop N) h; rw [hsp] at this; rw [this, h] at hok; cases hok
        have happ := takeA_app hi (rest.take N) (rest.drop N) hPok
        rw [hsp] at happ
        have hPl : (rest.take N).length = N := by rw [List.length_take]; omega
        have hrun : takeA r (rest.take N) = runA r (rest.take N) [] 0 := if_neg h11
        have hpos : 1 ≤ (takeA r (rest.take N)).2.2.1 := by
          rw [hrun]
          rw [hrun] at hPok
          obtain ⟨c, P', hcP⟩ : ∃ c P', rest.take N = c :: P' := by
            cases hh : rest.take N with
            | nil => rw [hh] at hPl; simp at hPl; omega
            | cons c P' => exact ⟨c, P', rfl⟩
          rw [hcP] at hPok ⊢
          have := runA_some c P' r [] 0 hr hPok
          omega
        have hI1 := takeA_i hi (rest.take N)
        rw [if_neg (by rw [hPok]; simp; omega)]
        by_cases hq : (takeA r (rest.take N)).1.st = 10
        · have e2 := takeA_done hq (rest.drop N)
          rw [e2] at happ
          dsimp only at happ
          rw [if_pos rfl, List.append_nil, Nat.add_zero] at happ
          have e3 := takeA_done hq (rest.drop (takeA r (rest.take N)).2.2.1)
          rw [ih _ _ _ _ _ hI1 (by rw [List.length_drop]; omega) (by rw [e3]) (by rw [e3]; exact hq), e3, happ]
          simp
        · have hall : (takeA r (rest.take N)).2.2.1 = N := by
            have := runA_all (rest.take N) r [] 0 (hrun ▸ hPok) (by rw [← hrun]; exact hq)
            rw [hrun, this, hPl, Nat.zero_add]
          rw [hall]
          have hok2 : (takeA (takeA r (rest.take N)).1 (rest.drop N)).2.2.2 = true := by rw [happ] at hok; exact hok
          have h102 : (takeA (takeA r (rest.take N)).1 (rest.drop N)).1.st = 10 := by rw [happ] at h10; exact h10
          rw [ih _ _ _ _ _ hI1 (by rw [List.length_drop]; omega) hok2 h102, happ]
          dsimp only
          rw [if_pos hok2, hall, List.append_assoc, Nat.add_assoc]
end Go.Proofs.YteneioapchhehaaDoor
