/- Bytes dealt piece by piece or at once: plain laws of the body reader. -/
import Derived.Test.YteneioapchhehaaDoorFrR
import Derived.Test.YteneioapchhehaaDoorChkL
namespace Go.Proofs.YteneioapchhehaaDoor
open Go.RowKit

theorem frTake_app_er {r : Fr} (L b : BL) (h : (frTake r L).2.2.2 = false) : frTake r (L ++ b) = frTake r L := by
  unfold frTake at h ⊢
  split at h
  · cases h
  · rename_i h1
    rw [if_neg h1, if_neg h1]
    split at h
    · rename_i h2
      rw [if_pos h2, if_pos h2]
      rw [takeA_app_er L b h]
    · split at h <;> cases h

theorem frTake_app {r : Fr} (hi : FrI r) (L b : BL) (h : (frTake r L).2.2.2 = true) : frTake r (L ++ b) =
    if (frTake r L).2.2.1 = L.length then
      ((frTake (frTake r L).1 b).1, (if (frTake (frTake r L).1 b).2.2.2 = true then (frTake r L).2.1 ++ (frTake (frTake r L).1 b).2.1 else []), (frTake r L).2.2.1 + (frTake (frTake r L).1 b).2.2.1, (frTake (frTake r L).1 b).2.2.2)
    else frTake r L := by
  by_cases h1 : r.ended = true ∨ r.k = 4
  · have e : ∀ l, frTake r l = (r, [], 0, true) := fun l => if_pos h1
    rw [e, e]
    dsimp only
    rw [e]
    split <;> rfl
  by_cases h2 : r.k = 2
  · have e : ∀ q, ¬ (({ r with ch := q } : Fr).ended = true ∨ ({ r with ch := q } : Fr).k = 4) := fun q => h1
    have e1 : ∀ l, frTake r l = ({ r with ch := (takeA r.ch l).1 }, (takeA r.ch l).2) := fun l => by unfold frTake; rw [if_neg h1, if_pos h2]
    have e2 : ∀ q l, frTake ({ r with ch := q } : Fr) l = ({ r with ch := (takeA q l).1 }, (takeA q l).2) := fun q l => by unfold frTake; rw [if_neg (e q), if_pos h2]
    rw [e1] at h
    dsimp only at h
    rw [e1 (L ++ b), e1 L]
    dsimp only
    rw [e2, takeA_app hi.ch L b h]
    dsimp only
    by_cases hk : (takeA r.ch L).2.2.1 = L.length
    · rw [if_pos hk]
    · rw [if_neg hk]
      have h11 : ¬ r.ch.st = 11 := by intro e; rw [takeA_broken e] at h; cases h
      have hrun : takeA r.ch L = runA r.ch L [] 0 := if_neg h11
      have h10 : (takeA r.ch L).1.st = 10 := by
        by_cases h10 : (takeA r.ch L).1.st = 10
        · exact h10
        · have := runA_all L r.ch [] 0 (hrun ▸ h) (by rw [← hrun]; exact h10)
          rw [← hrun, Nat.zero_add] at this
          exact absurd this hk
      rw [takeA_done h10]
      dsimp only
      rw [if_pos rfl, List.append_nil, Nat.add_zero, ← h]
  by_cases h3 : r.k = 1
  · have e : ∀ q, ¬ (({ r with left := q } : Fr).ended = true ∨ ({ r with left := q } : Fr).k = 4) := fun q => h1
    have e1 : ∀ l, frTake r l = ({ r with left := r.left - min (l.length : Int) r.left }, l.take r.left.toNat, min l.length r.left.toNat, true) := fun l => by unfold frTake; rw [if_neg h1, if_neg h2, if_pos h3]
    have e2 : ∀ q l, frTake ({ r with left := q } : Fr) l = ({ r with left := q - min (l.length : Int) q }, l.take q.toNat, min l.length q.toNat, true) := fun q l => by unfold frTake; rw [if_neg (e q), if_neg h2, if_pos h3]
    have hl := hi.left
    rw [e1 (L ++ b), e1 L]
    dsimp only
    rw [e2]
    dsimp only
    rw [if_pos rfl]
    by_cases hk : min L.length r.left.toNat = L.length
    · rw [if_pos hk]
      have hle : L.length ≤ r.left.toNat := by omega
      rw [List.length_append, List.take_append, List.take_of_length_le hle, show (r.left - min (L.length : Int) r.left).toNat = r.left.toNat - L.length by omega,
        show min (L.length + b.length) r.left.toNat = min L.length r.left.toNat + min b.length (r.left.toNat - L.length) by omega,
        show r.left - min ((L.length + b.length : Nat) : Int) r.left = r.left - min (L.length : Int) r.left - min (b.length : Int) (r.left - min (L.length : Int) r.left) by omega]
    · rw [if_neg hk]
      have hle : r.left.toNat ≤ L.length := by omega
      rw [List.length_append, List.take_append_of_le_length hle, show min (L.length + b.length) r.left.toNat = min L.length r.left.toNat by omega,
        show min ((L.length + b.length : Nat) : Int) r.left = min (L.length : Int) r.left by omega]
  · have e1 : ∀ l, frTake r l = (r, l, l.length, true) := fun l => by unfold frTake; rw [if_neg h1, if_neg h2, if_neg h3]
    rw [e1 (L ++ b), e1 L]
    dsimp only
    rw [if_pos rfl, e1, List.length_append]
    rfl

/-- what is known of what was told: of all bytes up to here, at once -/
def DlI (r0 : Fr) (L got : BL) (read : Nat) (failed : Bool) (r : Fr) : Prop :=
  (failed = true → (frTake r0 L).2 = ([], read, false)) ∧ (failed = false → frTake r0 L = (r, got, read, true))

theorem DlI.zero {k n : Int} (h : newOk k n = true) : DlI (frNew k n) [] [] 0 false (frNew k n) := by
  refine ⟨nofun, fun _ => ?_⟩
  have hl := (newOk_of h).2.1
  unfold frTake frNew
  dsimp only
  split
  · rfl
  · split
    · rfl
    · split
      · have e : min ((([] : BL).length : Nat) : Int) n = 0 := by simp; omega
        rw [e]
        simp
      · rfl
theorem DlI.stop {r0 r : Fr} {L got b : BL} {read : Nat} {failed : Bool} (hi : FrI r0) (h : DlI r0 L got read failed r) (hs : failed = true ∨ read ≠ L.length) : DlI r0 (L ++ b) got read failed r := by
  cases failed with
  | true =>
    have h1 := h.1 rfl
    refine ⟨fun _ => ?_, nofun⟩
    rw [frTake_app_er L b (by rw [h1]), h1]
  | false =>
    have h1 := h.2 rfl
    refine ⟨nofun, fun _ => ?_⟩
    rcases hs with hs | hs
    · cases hs
    · rw [frTake_app hi L b (by rw [h1]), if_neg (by rw [h1]; exact hs), h1]
theorem DlI.step {r0 r r2 : Fr} {L got b d : BL} {read n : Nat} {ok : Bool} (hi : FrI r0) (h : DlI r0 L got read false r) (hs : read = L.length) (ht : frTake r b = (r2, d, n, ok)) : DlI r0 (L ++ b) (got ++ d) (read + n) (!ok) r2 := by
  have h1 := h.2 rfl
  have h2 := frTake_app hi L b (by rw [h1])
  rw [if_pos (by rw [h1]; exact hs), h1] at h2
  dsimp only at h2
  rw [ht] at h2
  dsimp only at h2
  cases ok with
  | true => exact ⟨nofun, fun _ => h2⟩
  | false => exact ⟨fun _ => by rw [h2]; rfl, nofun⟩
end Go.Proofs.YteneioapchhehaaDoor
