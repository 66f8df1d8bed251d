/- Plain laws: what is put is read as it was. -/
import Derived.Test.YtiaafndkbcpbdaaDoorCkM
namespace Go.Proofs.YtiaafndkbcpbdaaDoor
open Go.RowKit

theorem hexDig_val (d : Nat) (h : d < 16) : hexV ((hexDig d).toNat : Int) = d := by
  have : ∀ d : Fin 16, hexV ((hexDig d.val).toNat : Int) = d.val := by decide
  exact this ⟨d, h⟩
theorem takeS_dig (ln : Nat) (lf d : Nat) (hl : ln < 15) (h : d < 16) : takeS ⟨0, ln, 0, lf⟩ ((hexDig d).toNat : Int) = (⟨0, ln + 1, 0, lf * 16 + d⟩, true) := by
  unfold takeS
  rw [hexDig_val d h, if_pos rfl, if_pos ⟨by omega, by dsimp only; omega⟩]
theorem takeS_dig0 (d : Nat) (h : d < 16) : takeS ⟨0, 0, 0, 0⟩ ((hexDig d).toNat : Int) = (⟨0, 1, 0, d⟩, true) := by
  have := takeS_dig 0 0 d (by omega) h
  simpa using this
theorem runA_step {r : Rd} {c : UInt8} {l out : List UInt8} {k : Nat} {r' : Rd} (h1 : ¬ r.st = 10) (h3 : ¬ r.st = 3) (h : takeS r (c.toNat : Int) = (r', true)) : runA r (c :: l) out k = runA r' l out (k + 1) := by
  rw [runA, if_neg h1, if_neg h3, h, if_pos rfl]

theorem runA_hex : ∀ (m : Nat) (n : Nat), n < 16 ^ (m + 1) → m ≤ 13 → ∀ (rest out : List UInt8) (k : Nat),
    runA ⟨0, 0, 0, 0⟩ (hexL n ++ rest) out k = runA ⟨0, (hexL n).length, 0, n⟩ rest out (k + (hexL n).length) := by
  intro m
  induction m with
  | zero =>
    intro n hn _ rest out k
    rw [hexL_last n (by omega), List.singleton_append, runA_step (by decide) (by decide) (takeS_dig0 n (by omega))]
    simp
  | succ m ih =>
    intro n hn hm rest out k
    by_cases h16 : n < 16
    · rw [hexL_last n h16, List.singleton_append, runA_step (by decide) (by decide) (takeS_dig0 n h16)]
      simp
    · have hq : n / 16 < 16 ^ (m + 1) := pow16_step n (m + 1) hn
      have hlen : (hexL (n / 16)).length ≤ m + 1 := hexL_len _ _ hq
      rw [hexL_step n (by omega), List.append_assoc, List.singleton_append, ih (n / 16) hq (by omega),
        runA_step (by dsimp only; omega) (by dsimp only; omega) (takeS_dig (hexL (n / 16)).length (n / 16) (n % 16) (by omega) (by omega))]
      have e1 : (n / 16 * 16 + n % 16 : Nat) = n := by omega
      have e2 : ((n / 16 : Nat) : Int) * 16 + ((n % 16 : Nat) : Int) = (n : Int) := by omega
      rw [e2, List.length_append]
      rfl

theorem hexL_pos (n : Nat) : 1 ≤ (hexL n).length := by
  by_cases h : n < 16
  · rw [hexL_last n h]; simp
  · rw [hexL_step n (by omega)]; simp

/-- a chunk, read -/
theorem runA_put (l : List UInt8) (hl : l.length < 16 ^ 12) (rest out : List UInt8) (k : Nat) :
    runA ⟨0, 0, 0, 0⟩ (putL l ++ rest) out k = runA ⟨0, 0, 0, 0⟩ rest (out ++ l) (k + (putL l).length) := by
  by_cases h0 : l = []
  · subst h0
    simp [putL]
  have hpos : 0 < l.length := List.length_pos_iff.2 h0
  have hp : putL l = hexL l.length ++ [13, 10] ++ l ++ [13, 10] := if_neg h0
  have hlen := hexL_len l.length 11 hl
  have hlen1 := hexL_pos l.length
  rw [hp, List.append_assoc, List.append_assoc, List.append_assoc, runA_hex 11 _ hl (by omega)]
  generalize hexL l.length = H at *
  have s1 : takeS ⟨0, H.length, 0, l.length⟩ (((13 : UInt8).toNat : Nat) : Int) = (⟨2, 0, 0, l.length⟩, true) := by
    unfold takeS
    rw [if_pos rfl, if_neg (by rintro ⟨h, _⟩; exact absurd h (by decide)), if_neg (by dsimp only; omega), if_neg (by decide)]
    rfl
  have s2 : takeS ⟨2, 0, 0, l.length⟩ (((10 : UInt8).toNat : Nat) : Int) = (⟨3, 0, 0, l.length⟩, true) := by
    have : sizedN (l.length : Int) = 3 := if_neg (by omega)
    unfold takeS
    dsimp only
    rw [this]
    rfl
  rw [show ([13, 10] : List UInt8) ++ (l ++ ([13, 10] ++ rest)) = 13 :: 10 :: (l ++ (13 :: 10 :: rest)) from rfl,
    runA_step (by dsimp only; omega) (by dsimp only; omega) s1, runA_step (by dsimp only; omega) (by dsimp only; omega) s2, runA_data l.length _ _ _ _ rfl hpos (by dsimp only; omega) (by simp)]
  dsimp only
  rw [if_pos (by omega), List.drop_left, List.take_left, show (l.length : Int) - (l.length : Int) = 0 from by omega,
    runA_step (r' := ⟨5, 0, 0, 0⟩) (by decide) (by decide) rfl, runA_step (r' := ⟨0, 0, 0, 0⟩) (by decide) (by decide) rfl]
  congr 1
  simp only [List.length_append, List.length_cons, List.length_nil]
  omega

/-- chunks one behind the other -/
def putsL (ls : List (List UInt8)) : List UInt8 := (ls.map putL).flatten
theorem runA_puts : ∀ (ls : List (List UInt8)) (_ : ∀ l ∈ ls, l.length < 16 ^ 12) (rest out : List UInt8) (k : Nat),
    runA ⟨0, 0, 0, 0⟩ (putsL ls ++ rest) out k = runA ⟨0, 0, 0, 0⟩ rest (out ++ ls.flatten) (k + (putsL ls).length)
  | [], _, rest, out, k => by simp [putsL]
  | l :: ls, h, rest, out, k => by
    have e : putsL (l :: ls) = putL l ++ putsL ls := rfl
    rw [e, List.append_assoc, runA_put l (h l List.mem_cons_self), runA_puts ls (fun x hx => h x (List.mem_cons_of_mem _ hx))]
    simp only [List.flatten_cons, List.append_assoc, List.length_append]
    congr 1
    omega

/-- .. and the last one, and what is behind -/
theorem takeA_puts (ls : List (List UInt8)) (h : ∀ l ∈ ls, l.length < 16 ^ 12) (rest : List UInt8) :
    takeA ⟨0, 0, 0, 0⟩ (putsL ls ++ lastL ++ rest) = (⟨10, 0, 0, 0⟩, ls.flatten, (putsL ls ++ lastL).length, true) := by
  have e : takeA ⟨0, 0, 0, 0⟩ (putsL ls ++ lastL ++ rest) = runA ⟨0, 0, 0, 0⟩ (putsL ls ++ lastL ++ rest) [] 0 := if_neg (by decide)
  rw [e, List.append_assoc, runA_puts ls h, show lastL ++ rest = 48 :: 13 :: 10 :: 13 :: 10 :: rest from rfl,
    runA_step (r' := ⟨0, 1, 0, 0⟩) (by decide) (by decide) rfl, runA_step (r' := ⟨2, 0, 0, 0⟩) (by decide) (by decide) rfl, runA_step (r' := ⟨6, 0, 0, 0⟩) (by decide) (by decide) rfl,
    runA_step (r' := ⟨9, 0, 0, 0⟩) (by decide) (by decide) rfl, runA_step (r' := ⟨10, 0, 0, 0⟩) (by decide) (by decide) rfl]
  have e2 : ∀ o k, runA ⟨10, 0, 0, 0⟩ rest o k = (⟨10, 0, 0, 0⟩, o, k, true) := by
    intro o k
    cases rest with
    | nil => rfl
    | cons c l => rw [runA, if_pos rfl]
  rw [e2]
  simp [lastL]
theorem takeA_cut (ls : List (List UInt8)) (h : ∀ l ∈ ls, l.length < 16 ^ 12) :
    takeA ⟨0, 0, 0, 0⟩ ((putsL ls ++ lastL).take ((putsL ls ++ lastL).length - 1)) = (⟨9, 0, 0, 0⟩, ls.flatten, (putsL ls ++ lastL).length - 1, true) := by
  have e0 : (putsL ls ++ lastL).take ((putsL ls ++ lastL).length - 1) = putsL ls ++ [48, 13, 10, 13] := by
    rw [show lastL = [48, 13, 10, 13] ++ [10] from rfl, ← List.append_assoc]
    rw [List.take_append_of_le_length (by simp)]
    apply List.take_of_length_le
    simp
  have e : takeA ⟨0, 0, 0, 0⟩ (putsL ls ++ [48, 13, 10, 13]) = runA ⟨0, 0, 0, 0⟩ (putsL ls ++ [48, 13, 10, 13]) [] 0 := if_neg (by decide)
  rw [e0, e, runA_puts ls h, 
    runA_step (r' := ⟨0, 1, 0, 0⟩) (by decide) (by decide) rfl, runA_step (r' := ⟨2, 0, 0, 0⟩) (by decide) (by decide) rfl, runA_step (r' := ⟨6, 0, 0, 0⟩) (by decide) (by decide) rfl,
    runA_step (r' := ⟨9, 0, 0, 0⟩) (by decide) (by decide) rfl, runA]
  simp [lastL]

/-- a body's chunks are its bytes -/
def piecesL (l : List UInt8) (n : Nat) : List (List UInt8) := (cidx n l.length l.length 0).map fun x => (l.drop x.1.1).take x.1.2
theorem cidx_flat (l : List UInt8) (n : Nat) (hn : 1 ≤ n) : ∀ f i, l.length ≤ i + f → ((cidx n l.length f i).map fun x => (l.drop x.1.1).take x.1.2).flatten = l.drop i
  | 0, i, h => by simp [cidx]; omega
  | f + 1, i, h => by
    rw [cidx]
    split
    · rename_i hi
      rw [List.map_cons, List.flatten_cons, cidx_flat l n hn f (i + n) (by omega)]
      dsimp only
      by_cases h1 : n ≤ l.length - i
      · rw [Nat.min_eq_left h1, ← List.drop_drop, List.take_append_drop]
      · rw [Nat.min_eq_right (by omega), List.drop_eq_nil_of_le (by omega : l.length ≤ i + n), List.append_nil]
        apply List.take_of_length_le
        simp
    · simp; omega
theorem pieces_flat (l : List UInt8) (n : Nat) (hn : 1 ≤ n) : (piecesL l n).flatten = l := by
  have := cidx_flat l n hn l.length 0 (by omega)
  exact this.trans (by simp)
theorem pieces_len (l : List UInt8) (n : Nat) : ∀ x ∈ piecesL l n, x.length ≤ l.length := by
  intro x hx
  obtain ⟨y, _, rfl⟩ := List.mem_map.1 hx
  simp
  omega
theorem whole_pieces (l : List UInt8) (n : Nat) : wholeL l n = putsL (piecesL l n) ++ lastL := by
  unfold wholeL outOf putsL piecesL
  rw [List.map_map]
  rfl
end Go.Proofs.YtiaafndkbcpbdaaDoor
