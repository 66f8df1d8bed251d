/- Fields, their items, a length, and how a body ends (frame.Of), walked. No condition of its own. -/
import Derived.Test.YteneioapchhehaaDoorPFrx1
import Derived.Test.YteneioapchhehaaDoorPFrx2
import Derived.Test.YteneioapchhehaaDoorPFrx3
import Derived.Test.YteneioapchhehaaDoorPFrx4
import Derived.Test.YteneioapchhehaaDoorPFrx5
import Derived.Test.YteneioapchhehaaDoorFdP
import Derived.IntWalk
import Derived.Lib.Strings
import Derived.WideShapes
import Derived.RangeFuncNested
import Derived.RangeFuncBound
import Derived.RangeFuncCalls
import Derived.RangeFuncLeaves
import Derived.Shelf.Abstract
import Derived.Shelf.RegionOpen
import Derived.OwnWalkIn
import Derived.TacticsInMore
import Derived.LoopNIn
import Derived.LoopIn
import Derived.Test.YteneioapchhehaaDoorMa
import Derived.Shelf.Strings.SlTrimAscii
import Derived.Test.YteneioapchhehaaDoorShelf
/- Fields' small functions: what the printed walks compute, in lists of bytes (plain laws). -/
namespace Go.Proofs.YteneioapchhehaaDoor
open Go.RowKit Go.Proofs.YteneioapchhehaaDoor.PFr Go.Proofs.YteneioapchhehaaDoor.Ext Go.Proofs.YteneioapchhehaaDoorW.PrintWords

def bs (l : BL) : ByteArray := ⟨l.toArray⟩
theorem bs_self (s : ByteArray) : bs s.data.toList = s := by unfold bs; simp
theorem bs_data (l : BL) : (bs l).data.toList = l := by simp [bs]
theorem bs_size (l : BL) : (bs l).size = l.length := by unfold bs; simp [ByteArray.size]
theorem bs_toList (l : BL) : (bs l).toList = l := by
  rw [ByteArray.toList_eq, bs_data]
theorem bs_extract (l : BL) (a b : Nat) : (bs l).extract a b = bs ((l.drop a).take (b - a)) := by
  rw [Lib.extract_eq, bs_data]; rfl
theorem bs_append (a b : BL) : bs a ++ bs b = bs (a ++ b) := by
  apply Go.WideShapes.bytes_inj
  simp [bs]
theorem bt_bs {l : BL} {i : Nat} {c : UInt8} (h : l[i]? = some c) : bt (bs l) (i : Int) = (c.toNat : Int) := by
  obtain ⟨hl, hc⟩ := List.getElem?_eq_some_iff.1 h
  have hs : (i : Int).toNat < (bs l).size := by rw [bs_size]; simpa using hl
  rw [← bt_at (bs l) i hs]
  subst hc
  simp [bs]
  rfl
theorem u8_lit (c d : UInt8) (z : Int) (h : (d.toNat : Int) = z) : ((c.toNat : Int) = z) ↔ c = d := by
  constructor
  · intro h2
    exact UInt8.toNat_inj.1 (by omega)
  · rintro rfl; exact h
theorem w1 (i : Nat) (h : i ≤ 4611686018427387904) : wrap64 ((i : Int) + 1) = ((i + 1 : Nat) : Int) := by rw [IntWalk.wrap64_in _ (by omega)]; rfl

theorem p_comma (s : BL) (hs : s.length ≤ 140737488355328) : ∀ (n : Nat) (l : BL) (q : Bool) (i k : Nat), l.length ≤ n → s.drop i = l → i ≤ s.length → 2 * l.length + 2 ≤ k →
    field_comma.l0 k (bs s) q (i : Int) = some ((i + commaL q l : Nat) : Int)
  | n, [], q, i, k, hn, hd, hi, hk => by
    obtain ⟨k, rfl⟩ : ∃ m, k = m + 1 := ⟨k - 1, by omega⟩
    have := List.drop_eq_nil_iff.1 hd
    rw [field_comma.l0]
    rw [if_neg (by rw [bs_size]; omega), bs_size]
    simp [commaL]; omega
  | 0, c :: l, q, i, k, hn, _, _, _ => by simp at hn
  | n + 1, c :: l, q, i, k, hn, hd, hi, hk => by
    obtain ⟨k, rfl⟩ : ∃ m, k = m + 2 := ⟨k - 2, by omega⟩
    have hlt : i < s.length := by
      by_cases h : i < s.length
      · exact h
      · rw [List.drop_eq_nil_of_le (by omega)] at hd; cases hd
    have hdd := List.drop_eq_getElem_cons hlt
    rw [hd] at hdd
    injection hdd with hcc hll
    have hb : bt (bs s) (i : Int) = (c.toNat : Int) := bt_bs (by rw [List.getElem?_eq_getElem hlt, hcc])
    simp only [List.length_cons] at hn hk
    have h34 := u8_lit c 34 34 rfl
    have h92 := u8_lit c 92 92 rfl
    have h44 := u8_lit c 44 44 rfl
    rw [field_comma.l0]
    rw [if_pos (by rw [bs_size]; omega), if_pos (by omega), hb, w1 i (by omega), commaL.eq_def]
    dsimp only
    by_cases e34 : c = 34
    · rw [if_pos (h34.2 e34), if_pos e34, p_comma s hs n l (!q) (i + 1) (k + 1) (by omega) hll.symm (by omega) (by omega)]
      congr 1; omega
    · rw [if_neg (fun h => e34 (h34.1 h)), if_neg e34]
      by_cases hq : q = true
      · subst hq
        rw [if_pos rfl]
        rw [field_comma.j1]
        by_cases e92 : c = 92
        · rw [if_pos (beq_iff_eq.2 (h92.2 e92)), if_pos ⟨rfl, e92⟩, w1 i (by omega), w1 (i + 1) (by omega)]
          cases l with
          | nil =>
            obtain ⟨k, rfl⟩ : ∃ m, k = m + 1 := ⟨k - 1, by omega⟩
            rw [field_comma.l0]
            have := List.drop_eq_nil_iff.1 hll.symm
            rw [if_neg (by rw [bs_size]; omega), bs_size]
            dsimp only
            congr 1; omega
          | cons d l =>
            simp only [List.length_cons] at hn hk
            rw [p_comma s hs n l true (i + 1 + 1) k (by omega) (by rw [← List.drop_drop, ← hll]; rfl) (by have := congrArg List.length hll; simp at this; omega) (by omega)]
            dsimp only
            congr 1; omega
        · rw [if_neg (by rw [beq_iff_eq]; exact fun h => e92 (h92.1 h)), if_pos rfl, if_neg (show ¬ (true = true ∧ c = 92) from fun h => e92 h.2), if_neg (show ¬ (true = false ∧ c = 44) from fun h => by cases h.1), w1 i (by omega), p_comma s hs n l true (i + 1) k (by omega) hll.symm (by omega) (by omega)]
          congr 1; omega
      · have hq' : q = false := by cases q; rfl; exact absurd rfl hq
        subst hq'
        rw [if_neg (by decide)]
        rw [field_comma.j1]
        rw [if_neg (by decide), if_neg (by decide), if_pos (by omega), if_pos (by rw [bs_size]; omega), hb, if_neg (show ¬ (false = true ∧ c = 92) from fun h => by cases h.1)]
        by_cases e44 : c = 44
        · rw [if_pos (h44.2 e44), if_pos ⟨rfl, e44⟩]; rfl
        · rw [if_neg (fun h => e44 (h44.1 h)), if_neg (fun h => e44 h.2), w1 i (by omega), p_comma s hs n l false (i + 1) k (by omega) hll.symm (by omega) (by omega)]
          congr 1; omega

theorem p_blank (c : UInt8) : mandolineref07_blank.f (c.toNat : Int) = some (isBl c) := by
  have h32 := u8_lit c 32 32 rfl
  have h9 := u8_lit c 9 9 rfl
  unfold mandolineref07_blank.f isBl
  by_cases e : c = 32
  · rw [if_pos (h32.2 e)]; simp [e]
  · rw [if_neg (fun h => e (h32.1 h))]
    have : (c == 32) = false := by simpa using e
    rw [this, Bool.false_or]
    congr 1
    by_cases e9 : c = 9
    · rw [beq_iff_eq.2 (h9.2 e9)]; simp [e9]
    · rw [beq_eq_false_iff_ne.2 (fun h => e9 (h9.1 h))]; simpa using e9

/-- from behind -/
def dropE (l : BL) : BL := (dropBl l.reverse).reverse
theorem dropE_snoc (l : BL) (c : UInt8) : dropE (l ++ [c]) = if isBl c = true then dropE l else l ++ [c] := by
  unfold dropE dropBl
  rw [List.reverse_append, List.reverse_singleton, List.singleton_append, List.dropWhile_cons]
  split <;> simp
theorem p_trimE : ∀ (n : Nat) (l : BL) (k : Nat), l.length ≤ n → l.length ≤ 140737488355328 → l.length + 1 ≤ k → mandolineref07_Trim.l1 k (bs l) = some (bs (dropE l))
  | 0, l, k, hn, hl, hk => by
    have : l = [] := List.eq_nil_of_length_eq_zero (by omega)
    subst this
    obtain ⟨k, rfl⟩ : ∃ m, k = m + 1 := ⟨k - 1, by omega⟩
    rw [mandolineref07_Trim.l1]
    rw [if_neg (by rw [bs_size]; simp)]; rfl
  | n + 1, l, k, hn, hl, hk => by
    obtain ⟨k, rfl⟩ : ∃ m, k = m + 1 := ⟨k - 1, by omega⟩
    rw [mandolineref07_Trim.l1]
    by_cases h0 : l = []
    · subst h0
      rw [if_neg (by rw [bs_size]; simp)]; rfl
    · obtain ⟨m, c, rfl⟩ : ∃ m c, l = m ++ [c] := ⟨l.dropLast, l.getLast h0, (List.dropLast_concat_getLast h0).symm⟩
      rw [List.length_append, List.length_singleton] at hn hl hk
      have hw : wrap64 (((bs (m ++ [c])).size : Int) - 1) = (m.length : Int) := by
        rw [bs_size, List.length_append, List.length_singleton, IntWalk.wrap64_in _ (by omega)]; omega
      rw [if_pos (by rw [bs_size, List.length_append, List.length_singleton]; omega), hw, if_pos (by omega), if_pos (by rw [bs_size, List.length_append, List.length_singleton]; omega),
        bt_bs (c := c) (by simp), p_blank, Option.bind_some, dropE_snoc]
      by_cases hb : isBl c = true
      · rw [if_pos hb, if_pos hb, if_pos (by rw [bs_size, List.length_append, List.length_singleton]; omega), bs_extract, Int.toNat_natCast, List.drop_zero, Nat.sub_zero, List.take_left]
        exact p_trimE n m k (by omega) (by omega) (by omega)
      · rw [if_neg hb, if_neg hb]
theorem p_trimB : ∀ (l : BL) (k : Nat), l.length ≤ 140737488355328 → 2 * l.length + 3 ≤ k → mandolineref07_Trim.l0 k (bs l) = some (bs (trimL l))
  | [], k, hl, hk => by
    obtain ⟨k, rfl⟩ : ∃ m, k = m + 3 := ⟨k - 3, by omega⟩
    rw [mandolineref07_Trim.l0]
    rw [if_neg (by rw [bs_size]; simp)]
    rw [mandolineref07_Trim.j1]
    exact p_trimE 0 [] (k + 1) (by simp) (by simp) (by simp)
  | c :: l, k, hl, hk => by
    obtain ⟨k, rfl⟩ : ∃ m, k = m + 2 := ⟨k - 2, by omega⟩
    simp only [List.length_cons] at hl hk
    rw [mandolineref07_Trim.l0]
    rw [if_pos (by rw [bs_size, List.length_cons]; omega), if_pos (by rw [bs_size, List.length_cons]; omega), show (0 : Int) = ((0 : Nat) : Int) from rfl, bt_bs (c := c) (by simp), p_blank, Option.bind_some]
    by_cases hb : isBl c = true
    · rw [if_pos hb, if_pos (by rw [bs_size, List.length_cons]; omega), bs_extract, bs_size]
      have e : trimL (c :: l) = trimL l := by unfold trimL dropBl; rw [List.dropWhile_cons, if_pos hb]
      have e2 : List.take ((c :: l).length - 1) (List.drop 1 (c :: l)) = l := by simp
      rw [e, e2]
      exact p_trimB l (k + 1) (by omega) (by omega)
    · rw [if_neg hb]
      rw [mandolineref07_Trim.j1]
      have e : trimL (c :: l) = dropE (c :: l) := by unfold trimL dropE dropBl; rw [List.dropWhile_cons, if_neg hb]
      rw [e]
      exact p_trimE _ (c :: l) k (Nat.le_refl _) (by simp only [List.length_cons]; omega) (by simp only [List.length_cons]; omega)
theorem p_trim (l : BL) (k : Nat) (hl : l.length ≤ 140737488355328) (hk : 2 * l.length + 3 ≤ k) : mandolineref07_Trim.f k (bs l) = some (bs (trimL l)) := p_trimB l k hl hk
end Go.Proofs.YteneioapchhehaaDoor

/- Fields' small functions, on: items, names alike, values of a name (plain laws). -/
namespace Go.Proofs.YteneioapchhehaaDoor
open Go.RowKit Go.Proofs.YteneioapchhehaaDoor.PFr Go.Proofs.YteneioapchhehaaDoor.Ext Go.Proofs.YteneioapchhehaaDoorW.PrintWords

theorem runI_len : ∀ (s item : BL) (q nx : Bool), (runI s item q nx).length ≤ s.length + 1
  | [], item, q, nx => by simp [runI]
  | c :: l, item, q, nx => by
    rw [runI]
    split
    · have := runI_len l [] q nx; simp; omega
    · refine Nat.le_trans (runI_len l _ _ _) (by simp)

theorem p_items (s : BL) (hs : s.length ≤ 1099511627776) : ∀ (l item : BL) (out : List BL) (q nx : Bool) (i k : Nat), s.drop i = l → i ≤ s.length → out.length ≤ i → item.length ≤ i → 3 * l.length + 2 * s.length + 6 ≤ k →
    mandolineref07_items.l0 k (bs s) (out.map bs) (bs item) q nx (i : Int) = some ((out ++ runI l item q nx).map bs)
  | [], item, out, q, nx, i, k, hd, hi, ho, hit, hk => by
    obtain ⟨k, rfl⟩ : ∃ m, k = m + 1 := ⟨k - 1, by omega⟩
    have := List.drop_eq_nil_iff.1 hd
    rw [mandolineref07_items.l0]
    rw [if_neg (by rw [bs_size]; omega), p_trim item k (by omega) (by simp at hk; omega), Option.bind_some, if_pos (by rw [List.length_map]; omega)]
    simp [runI]
  | c :: l, item, out, q, nx, i, k, hd, hi, ho, hit, hk => by
    obtain ⟨k, rfl⟩ : ∃ m, k = m + 3 := ⟨k - 3, by omega⟩
    have hlt : i < s.length := by
      by_cases h : i < s.length
      · exact h
      · rw [List.drop_eq_nil_of_le (by omega)] at hd; cases hd
    have hdd := List.drop_eq_getElem_cons hlt
    rw [hd] at hdd
    injection hdd with hcc hll
    have hb : bt (bs s) (i : Int) = (c.toNat : Int) := bt_bs (by rw [List.getElem?_eq_getElem hlt, hcc])
    simp only [List.length_cons] at hk
    have h34 := u8_lit c 34 34 rfl
    have h92 := u8_lit c 92 92 rfl
    have h44 := u8_lit c 44 44 rfl
    have hx : (bs s).extract (i : Int).toNat ((i + 1 : Nat) : Int).toNat = bs [c] := by
      rw [bs_extract, Int.toNat_natCast, Int.toNat_natCast, hd, Nat.add_sub_cancel_left]; rfl
    have hxa : bs item ++ bs [c] = bs (item ++ [c]) := bs_append _ _
    rw [mandolineref07_items.l0]
    rw [if_pos (by rw [bs_size]; omega), if_pos (by omega), hb, runI]
    by_cases e44 : c = 44 ∧ q = false
    · obtain ⟨rfl, rfl⟩ := e44
      rw [if_pos (h44.2 rfl), if_pos (show (44 : UInt8) = 44 ∧ false = false from ⟨rfl, rfl⟩), mandolineref07_items.j1, if_pos (show (!false) = true from rfl), p_trim item _ (by omega) (by omega), Option.bind_some, if_pos (by rw [List.length_map]; omega), w1 i (by omega)]
      have := p_items s hs l [] (out ++ [trimL item]) false nx (i + 1) (k + 1) hll.symm (by omega) (by simp; omega) (by simp) (by omega)
      rw [List.map_append, List.append_assoc] at this
      exact this
    · have hj : (if ((c.toNat : Int) = 44) then mandolineref07_items.j1 (k + 2) (bs s) (out.map bs) (bs item) q nx i (!q) else mandolineref07_items.j1 (k + 2) (bs s) (out.map bs) (bs item) q nx i false) = mandolineref07_items.j1 (k + 2) (bs s) (out.map bs) (bs item) q nx i false := by
        by_cases h : c = 44
        · have hq : q = true := by cases q; exact absurd ⟨h, rfl⟩ e44; rfl
          subst hq
          rw [if_pos (h44.2 h)]; rfl
        · rw [if_neg (fun h' => h (h44.1 h'))]
      rw [hj, if_neg e44, mandolineref07_items.j1, if_neg (by decide), if_pos (by omega), w1 i (by omega), if_pos (by omega), if_pos (by rw [bs_size]; omega), hx, hxa, if_pos (by rw [bs_size, bs_size]; simp; omega)]
      have hrec := fun (q' nx' : Bool) (m : Nat) (hm : 3 * l.length + 2 * s.length + 6 ≤ m) => p_items s hs l (item ++ [c]) out q' nx' (i + 1) m hll.symm (by omega) (by omega) (by simp; omega) hm
      by_cases hnx : nx = true
      · rw [if_pos hnx, if_pos hnx, if_pos hnx]
        exact hrec q false (k + 1) (by omega)
      · have hnx' : nx = false := by cases nx; rfl; exact absurd rfl hnx
        subst hnx'
        rw [if_neg (by decide)]
        have hj2 : (if q = true then (if (i : Int) < ((bs s).size : Int) then mandolineref07_items.j2 (k + 1) (bs s) (out.map bs) (bs (item ++ [c])) q false i (bt (bs s) i == 92) else none) else mandolineref07_items.j2 (k + 1) (bs s) (out.map bs) (bs (item ++ [c])) q false i false)
            = mandolineref07_items.j2 (k + 1) (bs s) (out.map bs) (bs (item ++ [c])) q false i (decide (q = true ∧ c = 92)) := by
          cases q with
          | false => rw [if_neg (by decide), decide_eq_false (fun h => by cases h.1)]
          | true =>
            rw [if_pos rfl, if_pos (by rw [bs_size]; omega), hb]
            congr 1
            by_cases h : c = 92
            · rw [beq_iff_eq.2 (h92.2 h), decide_eq_true ⟨rfl, h⟩]
            · rw [beq_eq_false_iff_ne.2 (fun h' => h (h92.1 h')), decide_eq_false (fun h' => h h'.2)]
        rw [hj2, mandolineref07_items.j2]
        simp only [Bool.false_eq_true, if_false]
        by_cases h9 : q = true ∧ c = 92
        · rw [decide_eq_true h9, if_pos rfl, if_pos h9, w1 i (by omega)]
          exact hrec q true k (by omega)
        · rw [decide_eq_false h9, if_neg (by decide), if_neg h9, if_pos (by omega), if_pos (by rw [bs_size]; omega), hb, w1 i (by omega)]
          by_cases h3 : c = 34
          · rw [if_pos (h34.2 h3), if_pos h3]
            exact hrec (!q) false k (by omega)
          · rw [if_neg (fun h' => h3 (h34.1 h')), if_neg h3]
            exact hrec q false k (by omega)

def allItems (vs : List BL) : List BL := (vs.map itemsR).flatten

theorem rdOf_bs {l : List BL} {i : Nat} {s : BL} (h : l[i]? = some s) : rdOf ByteArray.empty (l.map bs) (i : Int) = bs s := by
  unfold rdOf
  rw [Int.toNat_natCast, List.getD_eq_getElem?_getD, List.getElem?_map, h]; rfl

theorem p_ItemsIn (vs : List BL) (n0 : Int) (x9 : Nat) : ∀ (l xs out : List BL) (i k : Nat), xs.drop i = l → i ≤ xs.length → xs.length ≤ 4611686018427387904 → out.length + l.length ≤ 8796093022207 → l.length + 1 ≤ k →
    mandolineref07_Items.l1 k (out.map bs) (vs.map bs) n0 (x9 : Int) (xs.map bs) (xs.length : Int) (i : Int) = mandolineref07_Items.l0 (k - l.length - 1) ((out ++ l.filter (· ≠ [])).map bs) (vs.map bs) n0 (wrap64 ((x9 : Int) + 1))
  | [], xs, out, i, k, hd, hi, hx, ho, hk => by
    obtain ⟨k, rfl⟩ : ∃ m, k = m + 1 := ⟨k - 1, by omega⟩
    have := List.drop_eq_nil_iff.1 hd
    rw [mandolineref07_Items.l1, if_neg (by omega)]
    simp
  | s :: l, xs, out, i, k, hd, hi, hx, ho, hk => by
    obtain ⟨k, rfl⟩ : ∃ m, k = m + 1 := ⟨k - 1, by omega⟩
    have hlt : i < xs.length := by
      by_cases h : i < xs.length
      · exact h
      · rw [List.drop_eq_nil_of_le (by omega)] at hd; cases hd
    have hdd := List.drop_eq_getElem_cons hlt
    rw [hd] at hdd
    injection hdd with hcc hll
    simp only [List.length_cons] at hk ho
    rw [mandolineref07_Items.l1, if_pos (by omega), if_pos (by omega), if_pos (by rw [List.length_map]; omega), rdOf_bs (s := s) (by rw [List.getElem?_eq_getElem hlt, hcc]), bs_toList, w1 i (by omega)]
    by_cases h : s = []
    · rw [if_pos h, p_ItemsIn vs n0 x9 l xs out (i + 1) k hll.symm (by omega) hx (by omega) (by omega), List.filter_cons, if_neg (by simp [h])]
      congr 1; simp
    · rw [if_neg h, if_pos (by rw [List.length_map]; omega)]
      have := p_ItemsIn vs n0 x9 l xs (out ++ [s]) (i + 1) k hll.symm (by omega) hx (by simp; omega) (by omega)
      rw [List.map_append, List.map_singleton, List.append_assoc] at this
      rw [this, List.filter_cons, if_pos (by simp [h])]
      congr 1; simp

theorem itemsR_len (s : BL) : (itemsR s).length ≤ s.length + 1 := Nat.le_trans (List.length_filter_le _ _) (runI_len s [] false false)
theorem p_ItemsOut (vs : List BL) (M : Nat) (hM : M ≤ 1048576) (hvs : vs.length ≤ 1048576) (hv : ∀ v ∈ vs, v.length ≤ M) : ∀ (l out : List BL) (i k : Nat), vs.drop i = l → i ≤ vs.length → out.length ≤ i * (M + 1) → l.length * (M + 3) + 5 * M + 10 ≤ k →
    mandolineref07_Items.l0 k (out.map bs) (vs.map bs) (vs.length : Int) (i : Int) = some ((out ++ (l.map itemsR).flatten).map bs)
  | [], out, i, k, hd, hi, ho, hk => by
    obtain ⟨k, rfl⟩ : ∃ m, k = m + 1 := ⟨k - 1, by omega⟩
    have := List.drop_eq_nil_iff.1 hd
    rw [mandolineref07_Items.l0, if_neg (by omega)]
    simp
  | v :: l, out, i, k, hd, hi, ho, hk => by
    obtain ⟨k, rfl⟩ : ∃ m, k = m + 1 := ⟨k - 1, by omega⟩
    have hlt : i < vs.length := by
      by_cases h : i < vs.length
      · exact h
      · rw [List.drop_eq_nil_of_le (by omega)] at hd; cases hd
    have hdd := List.drop_eq_getElem_cons hlt
    rw [hd] at hdd
    injection hdd with hcc hll
    have hvM : v.length ≤ M := hv v (by rw [hcc]; exact List.getElem_mem hlt)
    have hmul : i * (M + 1) ≤ 1048576 * 1048577 := Nat.mul_le_mul (by omega) (by omega)
    have hstep : (l.length + 1) * (M + 3) = l.length * (M + 3) + (M + 3) := Nat.succ_mul _ _
    have hstep2 : (i + 1) * (M + 1) = i * (M + 1) + (M + 1) := Nat.succ_mul _ _
    simp only [List.length_cons] at hk
    have hit := p_items v (by omega) v [] [] false false 0 k rfl (Nat.zero_le _) (Nat.le_refl _) (Nat.le_refl _) (by omega)
    have hlen := runI_len v [] false false
    obtain ⟨xs, hxs⟩ : ∃ xs, runI v [] false false = xs := ⟨_, rfl⟩
    rw [hxs] at hit hlen
    have hf : (xs.filter (· ≠ [])) = itemsR v := by rw [← hxs]; rfl
    have hfl := itemsR_len v
    rw [mandolineref07_Items.l0, if_pos (by omega), if_pos (by omega), if_pos (by rw [List.length_map]; omega), rdOf_bs (s := v) (by rw [List.getElem?_eq_getElem hlt, hcc])]
    have e1 : mandolineref07_items.f k (bs v) = some (xs.map bs) := hit
    rw [e1, Option.bind_some, List.length_map]
    rw [show (0 : Int) = ((0 : Nat) : Int) from rfl, p_ItemsIn vs _ i xs xs out 0 k rfl (Nat.zero_le _) (by omega) (by omega) (by omega), hf, w1 i (by omega)]
    have := p_ItemsOut vs M hM hvs hv l (out ++ itemsR v) (i + 1) (k - xs.length - 1) hll.symm (by omega) (by rw [List.length_append]; omega) (by omega)
    rw [this]
    simp
theorem p_Items (vs : List BL) (M : Nat) (hM : M ≤ 1048576) (hvs : vs.length ≤ 1048576) (hv : ∀ v ∈ vs, v.length ≤ M) (k : Nat) (hk : vs.length * (M + 3) + 5 * M + 10 ≤ k) :
    mandolineref07_Items.f k (vs.map bs) = some ((allItems vs).map bs) := by
  have := p_ItemsOut vs M hM hvs hv vs [] 0 k rfl (Nat.zero_le _) (Nat.zero_le _) hk
  unfold mandolineref07_Items.f
  rw [List.length_map]
  exact this

theorem smallI_eq (c : UInt8) : field_small.f (c.toNat : Int) = some ((lowB c).toNat : Int) := by
  unfold field_small.f lowB
  have hc := c.toNat_lt
  have e65 : (65 : UInt8).toNat = 65 := rfl
  have e90 : (90 : UInt8).toNat = 90 := rfl
  by_cases h1 : (c.toNat : Int) ≥ 65
  · rw [if_pos h1]
    by_cases h2 : (c.toNat : Int) ≤ 90
    · rw [if_pos h2, if_pos ⟨by rw [UInt8.le_iff_toNat_le]; omega, by rw [UInt8.le_iff_toNat_le]; omega⟩, UInt8.toNat_add]
      have : (32 : UInt8).toNat = 32 := rfl
      congr 1; omega
    · rw [if_neg h2, if_neg (fun h => h2 (by have := h.2; rw [UInt8.le_iff_toNat_le] at this; omega))]
  · rw [if_neg h1, if_neg (fun h => h1 (by have := h.1; rw [UInt8.le_iff_toNat_le] at this; omega))]

theorem p_alikeL (a b : BL) (hl : a.length = b.length) (ha : a.length ≤ 140737488355328) : ∀ (l m : BL) (i k : Nat), a.drop i = l → b.drop i = m → i ≤ a.length → l.length + 1 ≤ k →
    field_alike.l0 k (bs a) (bs b) (a.length : Int) (i : Int) = some (lowL l == lowL m)
  | [], m, i, k, hd, he, hi, hk => by
    obtain ⟨k, rfl⟩ : ∃ m, k = m + 1 := ⟨k - 1, by omega⟩
    have := List.drop_eq_nil_iff.1 hd
    rw [field_alike.l0, if_neg (by omega)]
    have hm : m = [] := by rw [← he]; exact List.drop_eq_nil_of_le (by omega)
    rw [hm]; rfl
  | c :: l, m, i, k, hd, he, hi, hk => by
    obtain ⟨k, rfl⟩ : ∃ m, k = m + 1 := ⟨k - 1, by omega⟩
    have hlt : i < a.length := by
      by_cases h : i < a.length
      · exact h
      · rw [List.drop_eq_nil_of_le (by omega)] at hd; cases hd
    have hdd := List.drop_eq_getElem_cons hlt
    rw [hd] at hdd
    injection hdd with hcc hll
    have hee := List.drop_eq_getElem_cons (show i < b.length by omega)
    rw [he] at hee
    obtain ⟨d, hd2⟩ : ∃ d, b[i]'(by omega) = d := ⟨_, rfl⟩
    rw [hd2] at hee
    subst hee
    simp only [List.length_cons] at hk
    rw [field_alike.l0, if_pos (by omega), if_pos (by omega), if_pos (by rw [bs_size]; omega), bt_bs (c := c) (by rw [List.getElem?_eq_getElem hlt, hcc]), smallI_eq, Option.bind_some, if_pos (by rw [bs_size]; omega),
      bt_bs (c := d) (by rw [List.getElem?_eq_getElem (by omega), hd2]), smallI_eq, Option.bind_some, w1 i (by omega)]
    by_cases h : lowB c = lowB d
    · rw [if_pos (by rw [h]), p_alikeL a b hl ha l _ (i + 1) k hll.symm rfl (by omega) (by omega)]
      simp [lowL, h]
    · rw [if_neg (fun h' => h (UInt8.toNat_inj.1 (by omega)))]
      simp [lowL, h]
theorem p_alike (a b : BL) (ha : a.length ≤ 140737488355328) (k : Nat) (hk : a.length + 1 ≤ k) : field_alike.f k (bs a) (bs b) = some (alikeL a b) := by
  unfold field_alike.f alikeL
  rw [bs_size, bs_size]
  by_cases h : a.length = b.length
  · rw [if_pos (by omega)]
    exact p_alikeL a b h ha a b 0 k rfl rfl (Nat.zero_le _) hk
  · rw [if_neg (by omega)]
    have : (lowL a == lowL b) = false := by
      rw [beq_eq_false_iff_ne]
      intro e
      have := congrArg List.length e
      simp [lowL] at this
      exact h this
    rw [this]
theorem p_Low (a : BL) (ha : a.length ≤ 140737488355328) : mandolineref07_Low.f (bs a) = some (bs (lowL a)) := by
  unfold mandolineref07_Low.f
  rw [if_pos (by rw [bs_size]; exact ha)]
  unfold lowS
  rw [bs_data]; rfl
theorem p_Alike (a b : BL) (ha : a.length ≤ 140737488355328) (hb : b.length ≤ 140737488355328) : mandolineref07_Alike.f (bs a) (bs b) = some (alikeL a b) := by
  unfold mandolineref07_Alike.f
  rw [p_Low a ha, Option.bind_some, p_Low b hb, Option.bind_some]
  unfold alikeL
  simp [bs_toList]

/-- fields -/
def fS (x : BL × BL) : S59 := ⟨bs x.1, bs x.2⟩
def ofL (fs : List (BL × BL)) (nm : BL) : List BL := (fs.filter fun x => alikeL x.1 nm).map (·.2)
theorem rd_fS {l : List (BL × BL)} {i : Nat} {x : BL × BL} (h : l[i]? = some x) : rd_T59 (l.map fS) (i : Int) = fS x := by
  unfold rd_T59
  rw [Int.toNat_natCast, List.getD_eq_getElem?_getD, List.getElem?_map, h]; rfl
end Go.Proofs.YteneioapchhehaaDoor

/- Values of a name, numbers, and how a body ends (plain laws): the reference's Of. -/
namespace Go.Proofs.YteneioapchhehaaDoor
open Go.RowKit Go.Proofs.YteneioapchhehaaDoor.PFr Go.Proofs.YteneioapchhehaaDoor.Ext Go.Proofs.YteneioapchhehaaDoorW.PrintWords

/-- fields of a size that the walks bear -/
def FsOk (fs : List (BL × BL)) : Prop := fs.length ≤ 1048576 ∧ ∀ x ∈ fs, x.1.length ≤ 1048576 ∧ x.2.length ≤ 1048576
theorem p_OfL (fs : List (BL × BL)) (hf : FsOk fs) (nm : BL) : ∀ (l : List (BL × BL)) (out : List BL) (i k : Nat), fs.drop i = l → i ≤ fs.length → out.length ≤ i → l.length + 1048580 ≤ k →
    field_Of.l0 k (bs nm) (out.map bs) (fs.map fS) (fs.length : Int) (i : Int) = some ((out ++ ofL l nm).map bs)
  | [], out, i, k, hd, hi, ho, hk => by
    obtain ⟨k, rfl⟩ : ∃ m, k = m + 1 := ⟨k - 1, by omega⟩
    have := List.drop_eq_nil_iff.1 hd
    rw [field_Of.l0, if_neg (by omega)]
    simp [ofL]
  | x :: l, out, i, k, hd, hi, ho, hk => by
    obtain ⟨k, rfl⟩ : ∃ m, k = m + 1 := ⟨k - 1, by omega⟩
    have hfl := hf.1
    have hlt : i < fs.length := by
      by_cases h : i < fs.length
      · exact h
      · rw [List.drop_eq_nil_of_le (by omega)] at hd; cases hd
    have hdd := List.drop_eq_getElem_cons hlt
    rw [hd] at hdd
    injection hdd with hcc hll
    have hx := hf.2 x (by rw [hcc]; exact List.getElem_mem hlt)
    simp only [List.length_cons] at hk
    rw [field_Of.l0, if_pos (by omega), if_pos (by omega), if_pos (by rw [List.length_map]; omega), rd_fS (x := x) (by rw [List.getElem?_eq_getElem hlt, hcc])]
    dsimp only [fS]
    rw [p_alike x.1 nm (by omega) k (by omega), Option.bind_some, w1 i (by omega)]
    by_cases h : alikeL x.1 nm = true
    · rw [if_pos h, if_pos (by rw [List.length_map]; omega)]
      have := p_OfL fs hf nm l (out ++ [x.2]) (i + 1) k hll.symm (by omega) (by simp; omega) (by omega)
      rw [List.map_append, List.map_singleton] at this
      rw [this]
      simp [ofL, h]
    · rw [if_neg h, p_OfL fs hf nm l out (i + 1) k hll.symm (by omega) (by omega) (by omega)]
      simp [ofL, h]
theorem p_Of (fs : List (BL × BL)) (hf : FsOk fs) (nm : BL) : field_Of.f (fs.length + 1048580) (fs.map fS) (bs nm) = some ((ofL fs nm).map bs) := by
  unfold field_Of.f
  rw [List.length_map]
  exact p_OfL fs hf nm fs [] 0 _ rfl (Nat.zero_le _) (Nat.zero_le _) (Nat.le_refl _)
theorem p_rOfL (fs : List (BL × BL)) (hf : FsOk fs) (nm : BL) (hnm : nm.length ≤ 1048576) : ∀ (l : List (BL × BL)) (out : List BL) (i k : Nat), fs.drop i = l → i ≤ fs.length → out.length ≤ i → l.length + 1 ≤ k →
    mandolineref07_Of.l0 k (bs nm) (out.map bs) (fs.map fS) (fs.length : Int) (i : Int) = some ((out ++ ofL l nm).map bs)
  | [], out, i, k, hd, hi, ho, hk => by
    obtain ⟨k, rfl⟩ : ∃ m, k = m + 1 := ⟨k - 1, by omega⟩
    have := List.drop_eq_nil_iff.1 hd
    rw [mandolineref07_Of.l0, if_neg (by omega)]
    simp [ofL]
  | x :: l, out, i, k, hd, hi, ho, hk => by
    obtain ⟨k, rfl⟩ : ∃ m, k = m + 1 := ⟨k - 1, by omega⟩
    have hfl := hf.1
    have hlt : i < fs.length := by
      by_cases h : i < fs.length
      · exact h
      · rw [List.drop_eq_nil_of_le (by omega)] at hd; cases hd
    have hdd := List.drop_eq_getElem_cons hlt
    rw [hd] at hdd
    injection hdd with hcc hll
    have hx := hf.2 x (by rw [hcc]; exact List.getElem_mem hlt)
    simp only [List.length_cons] at hk
    rw [mandolineref07_Of.l0, if_pos (by omega), if_pos (by omega), if_pos (by rw [List.length_map]; omega), rd_fS (x := x) (by rw [List.getElem?_eq_getElem hlt, hcc])]
    dsimp only [fS]
    rw [p_Alike x.1 nm (by omega) (by omega), Option.bind_some, w1 i (by omega)]
    by_cases h : alikeL x.1 nm = true
    · rw [if_pos h, if_pos (by rw [List.length_map]; omega)]
      have := p_rOfL fs hf nm hnm l (out ++ [x.2]) (i + 1) k hll.symm (by omega) (by simp; omega) (by omega)
      rw [List.map_append, List.map_singleton] at this
      rw [this]
      simp [ofL, h]
    · rw [if_neg h, p_rOfL fs hf nm hnm l out (i + 1) k hll.symm (by omega) (by omega) (by omega)]
      simp [ofL, h]
theorem p_rOf (fs : List (BL × BL)) (hf : FsOk fs) (nm : BL) (hnm : nm.length ≤ 1048576) (k : Nat) (hk : fs.length + 1 ≤ k) : mandolineref07_Of.f k (fs.map fS) (bs nm) = some ((ofL fs nm).map bs) := by
  unfold mandolineref07_Of.f
  rw [List.length_map]
  exact p_rOfL fs hf nm hnm fs [] 0 _ rfl (Nat.zero_le _) (Nat.zero_le _) hk

/-- the first field of a name -/
def getL (fs : List (BL × BL)) (nm : BL) : Option BL := (fs.find? fun x => alikeL x.1 nm).map (·.2)
theorem p_GetL (fs : List (BL × BL)) (hf : FsOk fs) (nm : BL) : ∀ (l : List (BL × BL)) (i k : Nat), fs.drop i = l → i ≤ fs.length → l.length + 1048580 ≤ k →
    field_Get.l0 k (bs nm) (fs.map fS) (fs.length : Int) (i : Int) = some (bs ((getL l nm).getD []), (getL l nm).isSome)
  | [], i, k, hd, hi, hk => by
    obtain ⟨k, rfl⟩ : ∃ m, k = m + 1 := ⟨k - 1, by omega⟩
    have := List.drop_eq_nil_iff.1 hd
    rw [field_Get.l0, if_neg (by omega)]
    rfl
  | x :: l, i, k, hd, hi, hk => by
    obtain ⟨k, rfl⟩ : ∃ m, k = m + 1 := ⟨k - 1, by omega⟩
    have hfl := hf.1
    have hlt : i < fs.length := by
      by_cases h : i < fs.length
      · exact h
      · rw [List.drop_eq_nil_of_le (by omega)] at hd; cases hd
    have hdd := List.drop_eq_getElem_cons hlt
    rw [hd] at hdd
    injection hdd with hcc hll
    have hx := hf.2 x (by rw [hcc]; exact List.getElem_mem hlt)
    simp only [List.length_cons] at hk
    rw [field_Get.l0, if_pos (by omega), if_pos (by omega), if_pos (by rw [List.length_map]; omega), rd_fS (x := x) (by rw [List.getElem?_eq_getElem hlt, hcc])]
    dsimp only [fS]
    rw [p_alike x.1 nm (by omega) k (by omega), Option.bind_some, w1 i (by omega)]
    by_cases h : alikeL x.1 nm = true
    · rw [if_pos h]
      simp [getL, h]
    · rw [if_neg h, p_GetL fs hf nm l (i + 1) k hll.symm (by omega) (by omega)]
      simp [getL, h]
theorem p_Get (fs : List (BL × BL)) (hf : FsOk fs) (nm : BL) : field_Get.f (fs.length + 1048580) (fs.map fS) (bs nm) = some (bs ((getL fs nm).getD []), (getL fs nm).isSome) := by
  unfold field_Get.f
  rw [List.length_map]
  exact p_GetL fs hf nm fs 0 _ rfl (Nat.zero_le _) (Nat.le_refl _)

/-- a number of digits; -1: it is none -/
def numL : BL → Int → Int
  | [], n => n
  | c :: l, n => if c < 48 ∨ 57 < c then -1 else numL l (10 * n + (c.toNat : Int) - 48)
def numR (s : BL) : Int := if s.length < 1 ∨ 18 < s.length then -1 else numL s 0
theorem p_numL (s : BL) (hs : s.length ≤ 18) : ∀ (l : BL) (n : Int) (i k : Nat), s.drop i = l → i ≤ s.length → 0 ≤ n ∧ n < ((10 ^ i : Nat) : Int) → l.length + 1 ≤ k → mandolineref13_number.l0 k (bs s) n (i : Int) = some (numL l n)
  | [], n, i, k, hd, hi, hn, hk => by
    obtain ⟨k, rfl⟩ : ∃ m, k = m + 1 := ⟨k - 1, by omega⟩
    have := List.drop_eq_nil_iff.1 hd
    rw [mandolineref13_number.l0, if_neg (by rw [bs_size]; omega)]
    rfl
  | c :: l, n, i, k, hd, hi, hn, hk => by
    obtain ⟨k, rfl⟩ : ∃ m, k = m + 1 := ⟨k - 1, by omega⟩
    have hlt : i < s.length := by
      by_cases h : i < s.length
      · exact h
      · rw [List.drop_eq_nil_of_le (by omega)] at hd; cases hd
    have hdd := List.drop_eq_getElem_cons hlt
    rw [hd] at hdd
    injection hdd with hcc hll
    have hc := c.toNat_lt
    have e48 : (48 : UInt8).toNat = 48 := rfl
    have e57 : (57 : UInt8).toNat = 57 := rfl
    simp only [List.length_cons] at hk
    have hp : 10 ^ i ≤ 10 ^ 17 := Nat.pow_le_pow_right (by decide) (by omega)
    have e17 : (10 : Nat) ^ 17 = 100000000000000000 := by decide
    rw [e17] at hp
    have hps : (10 : Nat) ^ (i + 1) = 10 ^ i * 10 := Nat.pow_succ ..
    obtain ⟨P, hP⟩ : ∃ P, (10 : Nat) ^ i = P := ⟨_, rfl⟩
    rw [hP] at hp hps hn
    rw [mandolineref13_number.l0, if_pos (by rw [bs_size]; omega), if_pos (by omega), bt_bs (c := c) (by rw [List.getElem?_eq_getElem hlt, hcc]), numL]
    by_cases h1 : (c.toNat : Int) < 48
    · rw [if_pos h1, if_pos (.inl (by rw [UInt8.lt_iff_toNat_lt]; omega))]
    · rw [if_neg h1]
      by_cases h2 : (c.toNat : Int) > 57
      · rw [if_pos h2, if_pos (.inr (by rw [UInt8.lt_iff_toNat_lt]; omega))]
      · rw [if_neg h2, if_neg (by rw [UInt8.lt_iff_toNat_lt, UInt8.lt_iff_toNat_lt]; omega), w1 i (by omega)]
        have ew : wrap64 (wrap64 (wrap64 (10 * n) + wrap64 (c.toNat : Int)) - 48) = 10 * n + (c.toNat : Int) - 48 := by
          rw [IntWalk.wrap64_in (10 * n) (by omega), IntWalk.wrap64_in (c.toNat : Int) (by omega), IntWalk.wrap64_in (10 * n + (c.toNat : Int)) (by omega), IntWalk.wrap64_in _ (by omega)]
        rw [ew]
        exact p_numL s hs l _ (i + 1) k hll.symm (by omega) ⟨by omega, by rw [hps]; omega⟩ (by omega)
theorem p_number (s : BL) (k : Nat) (hk : 30 ≤ k) : mandolineref13_number.f k (bs s) = some (numR s) := by
  obtain ⟨k, rfl⟩ : ∃ m, k = m + 1 := ⟨k - 1, by omega⟩
  unfold mandolineref13_number.f numR
  rw [bs_size]
  by_cases h1 : s.length < 1
  · rw [if_pos (by omega), mandolineref13_number.j0, if_pos rfl, if_pos (.inl h1)]
  · rw [if_neg (by omega), mandolineref13_number.j0]
    by_cases h2 : 18 < s.length
    · rw [if_pos (decide_eq_true (by omega)), if_pos (.inr h2)]
    · rw [if_neg (by rw [decide_eq_true_iff]; omega), if_neg (by omega)]
      exact p_numL s (by omega) s 0 0 k rfl (Nat.zero_le _) ⟨Int.le_refl _, by decide⟩ (by omega)

theorem numL_nd : ∀ (l : BL) (n : Int), (∃ c ∈ l, c < 48 ∨ 57 < c) → numL l n = -1
  | [], n, h => by obtain ⟨c, hc, _⟩ := h; cases hc
  | c :: l, n, h => by
    rw [numL]
    by_cases hc : c < 48 ∨ 57 < c
    · rw [if_pos hc]
    · rw [if_neg hc]
      refine numL_nd l _ ?_
      obtain ⟨d, hd, hdd⟩ := h
      rcases List.mem_cons.1 hd with rfl | hd
      · exact absurd hdd hc
      · exact ⟨d, hd, hdd⟩

def HEADs : BL := [72, 69, 65, 68]
def TEs : BL := [84, 114, 97, 110, 115, 102, 101, 114, 45, 69, 110, 99, 111, 100, 105, 110, 103]
def CLs : BL := [67, 111, 110, 116, 101, 110, 116, 45, 76, 101, 110, 103, 116, 104]
def CHs : BL := [99, 104, 117, 110, 107, 101, 100]

/-- the one number that items are -/
def sizeL (it : List BL) : Option Int :=
  match it with
  | [] => none
  | s :: l => if (∀ x ∈ l, numR x = numR s) ∧ 0 ≤ numR s ∧ numR s ≤ 1099511627776 then some (numR s) else none
/-- a body that there is none of -/
def noBody (st : Int) (asked : BL) : Prop := asked = HEADs ∨ (100 ≤ st ∧ st ≤ 199) ∨ st = 204 ∨ st = 304
instance (st : Int) (asked : BL) : Decidable (noBody st asked) := by unfold noBody; infer_instance
def frameOf (st : Int) (fs : List (BL × BL)) (asked : BL) : Int × Int × Int :=
  if noBody st asked then (4, 0, 0)
  else
    match allItems (ofL fs TEs) with
    | [] => if ofL fs CLs = [] then (3, 0, 0) else match sizeL (allItems (ofL fs CLs)) with
      | none => (0, 0, 2)
      | some n => (1, n, 0)
    | [c] => if alikeL c CHs = true ∧ ofL fs CLs = [] then (2, 0, 0) else (0, 0, 2)
    | _ :: _ :: _ => (0, 0, 2)

theorem p_rOfLoop (it : List BL) (hit : it.length ≤ 4611686018427387904) (n : Int) : ∀ (l : List BL) (i k : Nat), it.drop i = l → i ≤ it.length → l.length + 40 ≤ k →
    mandolineref13_Of.l0 k (it.map bs) n (i : Int) = some (if (∀ x ∈ l, numR x = n) ∧ 0 ≤ n ∧ n ≤ 1099511627776 then (1, n, 0) else (0, 0, 2))
  | [], i, k, hd, hi, hk => by
    obtain ⟨k, rfl⟩ : ∃ m, k = m + 1 := ⟨k - 1, by omega⟩
    have := List.drop_eq_nil_iff.1 hd
    rw [mandolineref13_Of.l0, if_neg (by rw [List.length_map]; omega)]
    by_cases h1 : n < 0
    · rw [if_pos h1, if_neg (fun h => by omega)]
    · rw [if_neg h1]
      by_cases h2 : n > 1099511627776
      · rw [if_pos h2, if_neg (fun h => by omega)]
      · rw [if_neg h2, if_pos ⟨by simp, by omega, by omega⟩]
  | s :: l, i, k, hd, hi, hk => by
    obtain ⟨k, rfl⟩ : ∃ m, k = m + 1 := ⟨k - 1, by omega⟩
    have hlt : i < it.length := by
      by_cases h : i < it.length
      · exact h
      · rw [List.drop_eq_nil_of_le (by omega)] at hd; cases hd
    have hdd := List.drop_eq_getElem_cons hlt
    rw [hd] at hdd
    injection hdd with hcc hll
    simp only [List.length_cons] at hk
    rw [mandolineref13_Of.l0, if_pos (by rw [List.length_map]; omega), if_pos (by omega), rdOf_bs (s := s) (by rw [List.getElem?_eq_getElem hlt, hcc]), p_number s k (by omega), Option.bind_some, w1 i (by omega)]
    by_cases h : numR s = n
    · rw [if_pos h, p_rOfLoop it hit n l (i + 1) k hll.symm (by omega) (by omega)]
      simp [h]
    · rw [if_neg h, if_neg (fun h' => h (h'.1 s (List.mem_cons_self ..)))]

theorem itemsR_mem {s x : BL} (h : x ∈ itemsR s) : x ≠ [] := by
  have := (List.mem_filter.1 h).2
  simpa using this

theorem allItems_len (vs : List BL) (M : Nat) (hM : ∀ v ∈ vs, v.length ≤ M) : (allItems vs).length ≤ vs.length * (M + 1) := by
  unfold allItems
  induction vs with
  | nil => simp
  | cons v l ih =>
    have h1 := itemsR_len v
    have h2 := hM v (List.mem_cons_self ..)
    have h3 := ih (fun x hx => hM x (List.mem_cons_of_mem _ hx))
    rw [List.map_cons, List.flatten_cons, List.length_append, List.length_cons, Nat.succ_mul]
    omega
theorem ofL_ok {fs : List (BL × BL)} (hf : FsOk fs) (nm : BL) : (ofL fs nm).length ≤ fs.length ∧ ∀ v ∈ ofL fs nm, v.length ≤ 1048576 := by
  unfold ofL
  refine ⟨by rw [List.length_map]; exact List.length_filter_le _ _, fun v hv => ?_⟩
  obtain ⟨x, hx, rfl⟩ := List.mem_map.1 hv
  exact (hf.2 x (List.mem_filter.1 hx).1).2

theorem trimL_len (l : BL) : (trimL l).length ≤ l.length := by
  unfold trimL dropBl
  rw [List.length_reverse]
  refine Nat.le_trans (List.dropWhile_suffix _).length_le ?_
  rw [List.length_reverse]
  exact (List.dropWhile_suffix _).length_le
theorem runI_mem : ∀ (s item : BL) (q nx : Bool) (x : BL), x ∈ runI s item q nx → x.length ≤ item.length + s.length
  | [], item, q, nx, x, h => by
    have : x = trimL item := by simpa [runI] using h
    rw [this]
    have := trimL_len item
    omega
  | c :: l, item, q, nx, x, h => by
    rw [runI] at h
    split at h
    · rcases List.mem_cons.1 h with rfl | h
      · have := trimL_len item; omega
      · have := runI_mem l [] q nx x h
        simp at this ⊢; omega
    · have := runI_mem l _ _ _ x h
      simp at this ⊢; omega
theorem allItems_mem {fs : List (BL × BL)} (hf : FsOk fs) (nm : BL) {x : BL} (h : x ∈ allItems (ofL fs nm)) : x ≠ [] ∧ x.length ≤ 1048576 := by
  unfold allItems at h
  obtain ⟨xs, hxs, hx⟩ := List.mem_flatten.1 h
  obtain ⟨v, hv, rfl⟩ := List.mem_map.1 hxs
  have h1 := (ofL_ok hf nm).2 v hv
  have h2 := runI_mem v [] false false x (List.mem_filter.1 hx).1
  refine ⟨itemsR_mem hx, by simp at h2; omega⟩

def bigK : Nat := 2000000000000
theorem p_rAll {fs : List (BL × BL)} (hf : FsOk fs) (nm : BL) (k : Nat) (hk : bigK ≤ k) : mandolineref07_Items.f k ((ofL fs nm).map bs) = some ((allItems (ofL fs nm)).map bs) := by
  have h := ofL_ok hf nm
  have h1 := hf.1
  unfold bigK at hk
  exact p_Items _ 1048576 (Nat.le_refl _) (by omega) h.2 k (by omega)

theorem p_refOf (st : Int) (fs : List (BL × BL)) (hf : FsOk fs) (asked : BL) : mandolineref13_Of.f (3 * bigK) st (fs.map fS) (bs asked) = some (frameOf st fs asked) := by
  have hj1 : mandolineref13_Of.j0 (3 * bigK) (fs.map fS) true = some (4, 0, 0) := by
    have : 3 * bigK = (3 * bigK - 1) + 1 := by unfold bigK; omega
    rw [this, mandolineref13_Of.j0, if_pos rfl]
  unfold mandolineref13_Of.f frameOf
  rw [bs_toList]
  by_cases h1 : asked = HEADs
  · rw [if_pos (show asked = [72, 69, 65, 68] from h1), if_pos (show noBody st asked from .inl h1), hj1]
  rw [if_neg (show ¬ asked = [72, 69, 65, 68] from h1)]
  have hcase : (if st ≥ 100 then if st ≤ 199 then mandolineref13_Of.j0 (3 * bigK) (fs.map fS) true else if st = 204 then mandolineref13_Of.j0 (3 * bigK) (fs.map fS) true else mandolineref13_Of.j0 (3 * bigK) (fs.map fS) (st == 304)
      else if st = 204 then mandolineref13_Of.j0 (3 * bigK) (fs.map fS) true else mandolineref13_Of.j0 (3 * bigK) (fs.map fS) (st == 304)) = mandolineref13_Of.j0 (3 * bigK) (fs.map fS) (decide (noBody st asked)) := by
    by_cases h2 : 100 ≤ st ∧ st ≤ 199
    · rw [if_pos h2.1, if_pos h2.2, decide_eq_true (show noBody st asked from .inr (.inl h2))]
    · by_cases h3 : st = 204
      · subst h3
        rw [decide_eq_true (show noBody 204 asked from .inr (.inr (.inl rfl)))]; rfl
      · by_cases h4 : st = 304
        · subst h4
          rw [decide_eq_true (show noBody 304 asked from .inr (.inr (.inr rfl)))]; rfl
        · have hn : ¬ noBody st asked := by
            rintro (h | h | h | h)
            · exact h1 h
            · exact h2 h
            · exact h3 h
            · exact h4 h
          rw [decide_eq_false hn, beq_eq_false_iff_ne.2 h4]
          by_cases h5 : st ≥ 100
          · rw [if_pos h5, if_neg (fun h => h2 ⟨h5, h⟩), if_neg h3]
          · rw [if_neg h5, if_neg h3]
  rw [hcase]
  by_cases hn : noBody st asked
  · rw [decide_eq_true hn, if_pos hn, hj1]
  rw [decide_eq_false hn, if_neg hn]
  obtain ⟨K, hK⟩ : ∃ K, 3 * bigK = K + 1 := ⟨3 * bigK - 1, by unfold bigK; omega⟩
  have hKb : 2 * bigK ≤ K := by unfold bigK at hK ⊢; omega
  have hf1 := hf.1
  have hKf : fs.length + 1 ≤ K := by unfold bigK at hKb; omega
  rw [hK, mandolineref13_Of.j0, if_neg (by decide)]
  have e1 := p_rOf fs hf TEs (by decide) K hKf
  have e2 := p_rOf fs hf CLs (by decide) K hKf
  have e3 := p_rAll hf TEs K (by omega)
  have e4 := p_rAll hf CLs K (by omega)
  have i1 : (allItems (ofL fs CLs)).length ≤ 1048576 * 1048577 := Nat.le_trans (allItems_len _ 1048576 (ofL_ok hf CLs).2) (Nat.mul_le_mul (Nat.le_trans (ofL_ok hf CLs).1 hf1) (Nat.le_refl _))
  show (((mandolineref07_Of.f K (fs.map fS) (bs TEs)).bind fun t127 => ((mandolineref07_Items.f K t127).bind fun t130 => ((mandolineref07_Of.f K (fs.map fS) (bs CLs)).bind fun t133 => _)))) = _
  rw [e1, Option.bind_some, e3, Option.bind_some, e2, Option.bind_some]
  cases hc : allItems (ofL fs TEs) with
  | nil =>
    dsimp only
    rw [if_neg (by simp)]
    by_cases hl : ofL fs CLs = []
    · rw [if_pos (by rw [hl]; rfl), if_pos hl]
    · rw [if_neg (fun h => hl (by rw [List.length_map] at h; exact List.eq_nil_of_length_eq_zero (by omega))), if_neg hl, e4, Option.bind_some]
      cases hi : allItems (ofL fs CLs) with
      | nil => rw [if_pos (by simp)]; rfl
      | cons s l =>
        rw [hi] at i1
        rw [if_neg (by simp; omega), if_pos (by simp), show (0 : Int) = ((0 : Nat) : Int) from rfl, rdOf_bs (s := s) rfl, p_number s K (by unfold bigK at hKb; omega), Option.bind_some, p_rOfLoop (s :: l) (by omega) (numR s) (s :: l) 0 K rfl (Nat.zero_le _) (by unfold bigK at hKb; omega)]
        unfold sizeL
        dsimp only
        by_cases hz : (∀ x ∈ l, numR x = numR s) ∧ 0 ≤ numR s ∧ numR s ≤ 1099511627776
        · rw [if_pos hz, if_pos ⟨by simpa using hz.1, hz.2⟩]; rfl
        · rw [if_neg hz, if_neg (fun h => hz ⟨fun x hx => h.1 x (List.mem_cons_of_mem _ hx), h.2⟩)]; rfl
  | cons c l =>
    rw [if_pos (by simp)]
    cases l with
    | nil =>
      dsimp only
      rw [if_neg (by simp), if_pos (by simp), show (0 : Int) = ((0 : Nat) : Int) from rfl, rdOf_bs (s := c) rfl]
      have hcl : c.length ≤ 140737488355328 := by
        have := (allItems_mem hf TEs (x := c) (by rw [hc]; exact List.mem_cons_self ..)).2
        omega
      have e5 := p_Alike c CHs hcl (by decide)
      rw [show (⟨#[99, 104, 117, 110, 107, 101, 100]⟩ : ByteArray) = bs CHs from rfl, e5, Option.bind_some]
      by_cases ha : alikeL c CHs = true
      · rw [if_pos ha]
        by_cases hl : ofL fs CLs = []
        · rw [if_neg (by rw [hl]; simp), if_pos ⟨ha, hl⟩]
        · rw [if_pos (by rw [List.length_map]; have : (ofL fs CLs).length ≠ 0 := fun h => hl (List.eq_nil_of_length_eq_zero h); omega), if_neg (fun h => hl h.2)]
      · rw [if_neg ha, if_neg (fun h => ha h.1)]
    | cons d l =>
      dsimp only
      rw [if_pos (by simp; omega)]
end Go.Proofs.YteneioapchhehaaDoor

/- slices.Collect of texts, against whatever iterator that leaves the elder blocks alone. -/
namespace Go.Proofs.YteneioapchhehaaDoor
open Go.RowKit Go.Shelf
attribute [local go_sem] Oper.semAt_some

abbrev sV (l : BL) : Value := .string (bs l)
/-- texts that the call owns -/
abbrev OwS (w : World) (B : Nat) (v : Value) (l : List BL) : Prop := w.ownsRow B 9 1 v l.length (l.map sV)
theorem info_str : (Tryd.prog.info? 9).map (fun i => (i.zero, i.size, i.bytes)) = some (some (.string ⟨#[]⟩), 1, 16) := by kernel_rfl

/-- the blocks below B stay as they are -/
def KpB (B : Nat) (W W' : World) : Prop := ∀ k, k < B → W'.heap[k]? = W.heap[k]?
theorem KpB.trans {B : Nat} {A C D : World} (h : KpB B A C) (k : KpB B C D) : KpB B A D := fun i hi => (k i hi).trans (h i hi)
theorem KpB.put {B : Nat} (W : World) (l : Nat) (o' : Obj) (hl : B ≤ l) : KpB B W (W.putObj l o') := fun k hk => World.putObj_heap_other (by omega)

/-- between two rounds -/
def CoI (w : World) (pre : List BL) (W : World) : Prop :=
  ∃ v, W.heap[w.heap.size]? = some (.cells #[v] 60 (0, 0)) ∧ OwS W (w.heap.size + 1) v pre ∧ Below w.heap.size w W ∧ w.heap.size + 1 ≤ W.heap.size
theorem ows_row {W W' : World} {row : Option Nat} {B : Nat} {v : Value} {l : List BL} (h : OwS W B v l) (hg : W.grownBy W' row) (hr : ∀ r, row = some r → ∃ o : Obj, W.heap[r]? = some o ∧ o.isCells = false) : OwS W' B v l := by
  refine ⟨h.1, ?_⟩
  rcases h.2 with hn | ⟨g, cap, cur, rfl, hb, hh, r⟩
  · exact .inl hn
  · refine .inr ⟨g, cap, cur, rfl, hb, (hg.block g (lt_of_block hh) ?_).trans hh, r⟩
    intro e
    obtain ⟨o, ho, hc⟩ := hr g e.symm
    rw [hh] at ho; cases ho; cases hc
theorem boxS_row {W W' : World} {row : Option Nat} {g : Nat} {cs : Array Value} {t : TypeId} {fr : Nat × Nat} (h : W.heap[g]? = some (.cells cs t fr)) (hg : W.grownBy W' row) (hr : ∀ r, row = some r → ∃ o : Obj, W.heap[r]? = some o ∧ o.isCells = false) : W'.heap[g]? = some (.cells cs t fr) :=
  (hg.block g (lt_of_block h) (by intro e; obtain ⟨o, ho, hc⟩ := hr g e.symm; rw [h] at ho; cases ho; cases hc)).trans h
theorem CoI.own (w : World) : OwnFrom (w.heap.size + 1) (CoI w) := by
  rintro pre W W' row ⟨v, hb, ho, hB, hsz⟩ hg hr
  exact ⟨v, boxS_row hb hg (fun r e => (hr r e).2), ows_row ho hg (fun r e => (hr r e).2), hB.grown hg hB.size (fun k e => by have := (hr k e).1; omega), Nat.le_trans hsz hg.size⟩
theorem OwS.ge {w : World} {B : Nat} {v : Value} {l : List BL} (h : OwS w B v l) : ∀ k, v.ownBlock = some k → B ≤ k ∧ k < w.heap.size := by
  intro k hk
  rcases h.2 with ⟨rfl, _⟩ | ⟨g, cap, cur, rfl, hb, hg, _⟩
  · cases hk
  · cases hk
    exact ⟨hb, lt_of_block hg⟩
theorem OwS.keep {w w' : World} {B : Nat} {v : Value} {l : List BL} (h : OwS w B v l) (hb : ∀ k, v.ownBlock = some k → w'.heap[k]? = w.heap[k]?) : OwS w' B v l := by
  refine ⟨h.1, ?_⟩
  rcases h.2 with hn | ⟨g, cap, cur, hv, hbg, hg, rest⟩
  · exact .inl hn
  · exact .inr ⟨g, cap, cur, hv, hbg, by rw [hb g (by rw [hv]; rfl)]; exact hg, rest⟩
theorem OwS.alloc {w : World} {B : Nat} {v : Value} {l : List BL} (h : OwS w B v l) (o : Obj) : OwS (w.alloc o) B v l :=
  h.keep fun k hk => Below.heap_alloc _ _ _ (h.ge k hk).2

theorem OwS.mono {w : World} {B B' : Nat} {v : Value} {l : List BL} (h : OwS w B v l) (hB : B' ≤ B) : OwS w B' v l := by
  refine ⟨h.1, ?_⟩
  rcases h.2 with hn | ⟨g, cap, cur, hv, hbg, rest⟩
  · exact .inl hn
  · exact .inr ⟨g, cap, cur, hv, Nat.le_trans hB hbg, rest⟩
theorem OwS.putD {W : World} {B D : Nat} {v : Value} {l : List BL} {o : Obj} (h : OwS W B v l) (hK : W.heap[D]? = some o) (ho : o.isCells = false) (o' : Obj) : OwS (W.putObj D o') B v l :=
  h.keep fun k hk => World.putObj_heap_other (by
    rintro rfl
    rcases h.2 with ⟨rfl, _⟩ | ⟨g, cap, cur, rfl, _, hh, _⟩
    · cases hk
    · cases hk; rw [hh] at hK; cases hK; cases ho)

/-- a round's step -/
theorem col_step {w W : World} {pre : List BL} {v : Value} {x : BL} (hv : W.heap[w.heap.size]? = some (.cells #[v] 60 (0, 0))) (ho : OwS W (w.heap.size + 1) v pre) (hB : Below w.heap.size w W) (hsW : w.heap.size + 1 ≤ W.heap.size) (_ : x.length = x.length)
    {v2 : Value} {w2 : World} (ho2 : OwS w2 (w.heap.size + 1) v2 (pre ++ [x])) (hg2 : (W.alloc (.cells #[sV x] 9)).grownBy w2 v.ownBlock) :
    w2.cell? ⟨w.heap.size, 0, none⟩ = some v ∧ w2.frozen? ⟨w.heap.size, 0, none⟩ = false ∧ CoI w (pre ++ [x]) (w2.setCell ⟨w.heap.size, 0, none⟩ v2) ∧ KeepsFrom (w.heap.size + 1) W (w2.setCell ⟨w.heap.size, 0, none⟩ v2) ∧ KpB w.heap.size W (w2.setCell ⟨w.heap.size, 0, none⟩ v2) := by
  have hne : some w.heap.size ≠ v.ownBlock := by intro e; have := (ho.ge _ e.symm).1; omega
  have hlow : ∀ k, k < w.heap.size + 1 → w2.heap[k]? = W.heap[k]? := fun k hk =>
    (hg2.block k (by simp; omega) (by intro e; have := (ho.ge k e.symm).1; omega)).trans (Below.heap_alloc _ _ _ (by omega))
  have hv2 : w2.heap[w.heap.size]? = some (.cells #[v] 60 (0, 0)) := (hlow _ (by omega)).trans hv
  have hsz2 : W.heap.size ≤ w2.heap.size := by have := hg2.size; simp at this; omega
  refine ⟨(blk_cell hv2 0).trans rfl, blk_free hv2 0, ⟨v2, blk_set hv2 0 _, ho2.keep fun k hk => Below.heap_setCell _ _ _ _ (by have := (ho2.ge k hk).1; show k ≠ w.heap.size; omega), ?_, ?_⟩, ?_, ?_⟩
  · have h2 : Below w.heap.size w w2 := (hB.alloc hB.size _).grown hg2 (by have := hB.size; simp; omega) (fun k hk => by have := (ho.ge k hk).1; omega)
    exact h2.setCell (Nat.le_refl _) _
  · simp only [World.setCell, Array.size_modify]; omega
  · have hk2 : KeepsFrom (w.heap.size + 1) (W.alloc (.cells #[sV x] 9)) w2 := KeepsOthers.from (KeepsOthers.of_grownBy hg2 (fun j o hj hoo => by
      rcases (ho.alloc (.cells #[sV x] 9)).2 with ⟨rfl, _⟩ | ⟨gg, cap, cur, rfl, _, hh, _⟩
      · cases hj
      · cases hj; rw [hh] at hoo; cases hoo; rfl)) _
    have hk1 : KeepsFrom (w.heap.size + 1) W (W.alloc (.cells #[sV x] 9)) := ⟨by simp, fun k o _ hk _ => (Below.heap_alloc _ _ _ (Array.getElem?_eq_some_iff.1 hk).1).trans hk⟩
    exact (hk1.trans hk2).trans ((KeepsOthers.setCell _ _ _).from _)
  · intro k hk
    rw [Below.heap_setCell _ _ _ _ (by show k ≠ w.heap.size; omega)]
    exact hlow k (by omega)

set_option maxRecDepth 100000 in
set_option maxHeartbeats 2000000 in
theorem AppendSeq_in (n : Nat) (hn : 3 ≤ n) (gf : Nat) (lb : Array Value) (eg : ∀ args w, (callFunc gf args).run Tryd.prog w = .ok (.enter gf args) w) (vs : List BL) (N : Nat) (hN : N ≤ 4398046511104) (w : World)
    (hseq : ∀ W, Below w.heap.size w W → SeqStopsK Fence.wide (n - 1) Tryd.prog gf lb (fun x => #[sV x]) (KpB w.heap.size) (fun ys => ys = vs) (fun _ => True) N W) :
    CallsIn Fence.wide n Tryd.prog 48 #[.slice none 0 0, .func (.func gf) #[] lb] w fun e w' => ∃ v, e = .returned v ∧ OwS w' w.heap.size v vs ∧ Below w.heap.size w w' := by
  refine callsIn_of_wp_marks Tryd.func48 rfl trivial ?_ rfl
  simp only [Tryd.ntmps48, List.size_toArray, List.length_cons, List.length_nil, Nat.reduceAdd, Nat.reduceSub, Array.replicate_succ, Array.replicate_zero, List.push_toArray, List.append_toArray, List.nil_append, List.cons_append]
  gi_wp2
  obtain ⟨W0, hW0⟩ : ∃ W0, w.alloc (Obj.cells #[Value.slice none 0 0] 60) = W0 := ⟨_, rfl⟩
  have hsz : W0.heap.size = w.heap.size + 1 := by rw [← hW0]; simp
  have hb0 : Below w.heap.size w W0 := by rw [← hW0]; exact (Below.refl _ w).alloc (Nat.le_refl _) _
  have k0 : W0.heap[w.heap.size]? = some (.cells #[.slice none 0 0] 60 (0, 0)) := by rw [← hW0]; exact heap_alloc_new w _
  rw [hW0]
  clear hW0
  have hI0 : CoI w [] W0 := ⟨_, k0, ⟨by simp, .inl ⟨rfl, rfl⟩⟩, hb0, by omega⟩
  refine wpIn_rangeFunc_ownG rfl (by omega) (gf := gf) (lb := lb) rfl trivial eg (hseq W0 hb0) KpB.trans (fun W l _ o' hl _ _ _ => KpB.put W l o' (by omega)) (Below.refl _ _) (fun _ => rfl)
    (CoI w) (fun _ _ _ => False) (by rw [hsz]; exact CoI.own w) (fun _ _ _ _ _ hs _ _ => hs) hI0
    (fun x => { tmps := #[.slice none 0 0, .func (.func gf) #[] lb, .pointer (some ⟨w.heap.size, 0, none⟩), undef, .slice none 0 0, sV x, .func (.func gf) #[] lb, sV x, undef, undef, undef, undef, undef], defers := [] }) ?assign ?body ?done ?stop
  case assign =>
    intro l' x W K hK
    gi_wp2
    exact hK
  case body =>
    rintro l' pre x W ⟨v, hv, ho, hB, hsW⟩ hlt
    have hc : W.cell? ⟨w.heap.size, 0, none⟩ = some v := (blk_cell hv 0).trans rfl
    have hlw : w.heap.size < W.heap.size := by omega
    obtain ⟨i0, hi, hz0, hz1, hz2⟩ := info_parts info_str
    have HO := Lib.hid (OwS.alloc ho (.cells #[sV x] 9))
    have HST := Lib.hid (fun v2 w2 ho2 hg2 => col_step (x := x) (v2 := v2) (w2 := w2) hv ho hB hsW rfl ho2 hg2)
    have HNEW := Lib.hid (show ∀ (j : Nat) u, [sV x][j]? = some u → (W.alloc (.cells #[sV x] 9)).cell? ((⟨W.heap.size, 0, none⟩ : Addr).add j) = some u from World.news_of_block (cs := #[sV x]) (t := 9) (fr := (0, 0)) (heap_alloc_new W _))
    have HL1 : Hid (pre.length + 1 ≤ maxLen ∧ (pre.length + 1) * 16 ≤ 140737488355328) := Lib.hid ⟨by unfold maxLen; omega, by omega⟩
    have HBS : Hid (w.heap.size + 1 ≤ (W.alloc (.cells #[sV x] 9)).heap.size) := Lib.hid (by simp; omega)
    clear hv ho hB hsW hlt
    gi_wp2_with (first
      | (gi_at_builtin; refine wpListIn_append_own _ rfl _ _ 60 rfl (w.heap.size + 1) 9 i0 (.string ⟨#[]⟩) 1 16 Tryd.underlying60 hi hz0 hz1 hz2 rfl (by decide) v pre.length (pre.map sV) rfl HO.out ⟨W.heap.size, 0, none⟩ 1 1 [sV x] rfl rfl HNEW.out (by simp [Value.oneCell']) HL1.out.1 HL1.out.2 HBS.out ?_; intro v2 w2 hown hg _
         obtain ⟨g', cap', hv2⟩ : ∃ g' cap', v2 = .slice (some ⟨g', 0, none⟩) (pre.length + 1) cap' := by
           rcases hown.2 with ⟨_, h0⟩ | ⟨g, cap, cur, h, _⟩
           · exact absurd h0 (by omega)
           · exact ⟨g, cap, h⟩
         subst hv2
         have hres := HST.out _ w2 (by have h := hown; rw [show pre.length + 1 = (pre ++ [x]).length from by simp, show pre.map sV ++ [sV x] = (pre ++ [x]).map sV from by simp] at h; exact h) hg
         have hc2 := hres.1
         have hf2 := hres.2.1
         have HR := Lib.hid hres.2.2
         clear hres hown hg))
    obtain ⟨r1, r2, r3⟩ := HR.out
    have el : (pre ++ [x]).length = pre.length + 1 := by simp
    rw [el] at r1 r2 r3
    exact ⟨by rw [hsz]; exact r2, r3, r1⟩
  case done =>
    rintro D ys W hD rfl ⟨v, hv, ho, hB, hsW⟩ hK
    have hc : W.cell? ⟨w.heap.size, 0, none⟩ = some v := (blk_cell hv 0).trans rfl
    have HO := Lib.hid ho
    have HB := Lib.hid hB
    have HK := Lib.hid hK
    clear hv ho hB hsW hK
    gi_wp2
    refine ⟨by simp, .inl ⟨_, _, rfl, run_takeDeferred HK.out, ?_⟩⟩
    exact ⟨v, by simp [results, Tryd.results48, go_sem], v, rfl, OwS.putD (HO.out.mono (by omega)) HK.out rfl _, HB.out.trans (belowK_b (w := w) (Nat.le_refl _) W D _ _ (by omega) HK.out rfl rfl)⟩
  case stop =>
    rintro D c pre W _ _ h
    exact h.elim

set_option maxRecDepth 100000 in
set_option maxHeartbeats 1000000 in
theorem Collect_calls (gf : Nat) (lb : Array Value) (eg : ∀ args w, (callFunc gf args).run Tryd.prog w = .ok (.enter gf args) w) (vs : List BL) (N : Nat) (hN : N ≤ 4398046511104) (w : World)
    (hseq : ∀ W, Below w.heap.size w W → SeqStopsK Fence.wide 7 Tryd.prog gf lb (fun x => #[sV x]) (KpB w.heap.size) (fun ys => ys = vs) (fun _ => True) N W) :
    Calls Tryd.prog 28 #[.func (.func gf) #[] lb] w fun e w' => ∃ v, e = .returned v ∧ OwS w' w.heap.size v vs ∧ Below w.heap.size w w' := by
  refine (callsIn_wide (n := 9)).1 ?_
  refine callsIn_of_wp Tryd.func28 rfl trivial ?_ rfl
  simp only [Tryd.ntmps28, List.size_toArray, List.length_cons, List.length_nil, Nat.reduceAdd, Nat.reduceSub, Array.replicate_succ, Array.replicate_zero, List.push_toArray, List.append_toArray, List.nil_append, List.cons_append]
  gi_wp2_with (refine ⟨trivial, ?_⟩; gi_at_call 48; refine (AppendSeq_in 8 (by omega) gf lb eg vs N hN w hseq).mono ?_; rintro e w' ⟨v, rfl, h1, h2⟩)
  go_ret
  exact ⟨v, rfl, h1, h2⟩
end Go.Proofs.YteneioapchhehaaDoor

/- field.Items, walked: the iterator, and its closure. -/
namespace Go.Proofs.YteneioapchhehaaDoor
open Go.RowKit Go.Shelf Go.Proofs.YteneioapchhehaaDoor.PFr Go.Proofs.YteneioapchhehaaDoorW.PrintWords
attribute [local go_sem] Oper.semAt_some

theorem comma_calls (s : BL) (hs : s.length ≤ 140737488355328) (w : World) : Calls Tryd.prog 50 #[.string (bs s)] w fun e w' => e = .returned (.int .i64 (commaL false s : Nat)) ∧ Below w.heap.size w w' := by
  have h := field_comma.calls (2 * s.length + 2) (bs s) (commaL false s : Nat) w (by
    have := p_comma s hs s.length s false 0 (2 * s.length + 2) (Nat.le_refl _) rfl (Nat.zero_le _) (Nat.le_refl _)
    rw [Nat.zero_add] at this
    exact this)
  exact h.mono fun e w' ⟨h1, h2⟩ => ⟨h1, h2.below⟩

theorem dropE_cons (c : UInt8) (l : BL) : dropE (c :: l) = if dropE l = [] ∧ isBl c = true then [] else c :: dropE l := by
  unfold dropE dropBl
  rw [List.reverse_cons, List.dropWhile_append]
  by_cases h : (List.dropWhile isBl l.reverse) = []
  · rw [h]
    by_cases hc : isBl c = true
    · simp [hc]
    · simp [hc]
  · have h2 : (List.dropWhile isBl l.reverse).isEmpty = false := by simpa using h
    rw [h2]
    simp [h]
theorem trim_swap : ∀ l : BL, dropBl (dropE l) = dropE (dropBl l)
  | [] => rfl
  | c :: l => by
    rw [dropE_cons]
    by_cases hc : isBl c = true
    · have e : dropBl (c :: l) = dropBl l := by unfold dropBl; rw [List.dropWhile_cons, if_pos hc]
      rw [e]
      by_cases h : dropE l = []
      · rw [if_pos ⟨h, hc⟩, ← trim_swap l, h]
      · rw [if_neg (fun h' => h h'.1), ← trim_swap l]
        unfold dropBl; rw [List.dropWhile_cons, if_pos hc]
    · have e : dropBl (c :: l) = c :: l := by unfold dropBl; rw [List.dropWhile_cons, if_neg hc]
      rw [e, dropE_cons, if_neg (fun h' => hc h'.2)]
      unfold dropBl; rw [List.dropWhile_cons, if_neg hc]
theorem trimS_eq (l : BL) : Lib.trimS l [32, 9] = trimL l := by
  have hp : ∀ c : UInt8, ([32, 9] : BL).contains c = isBl c := fun c => by unfold isBl; simp; rfl
  have hf : (fun c : UInt8 => ([32, 9] : BL).contains c) = isBl := funext hp
  unfold Lib.trimS Lib.trimLeftS Lib.trimRightS
  rw [hf]
  exact trim_swap l
theorem Trim_calls (s : BL) (hs : s.length ≤ 140737488355328) (w : World) : Calls Tryd.prog 51 #[.string (bs s), .string ⟨#[32, 9]⟩] w fun e w' => e = .returned (.string (bs (trimL s))) ∧ Below w.heap.size w w' := by
  have h := Any.strings_Trim_laid Tryd.lays160 (by kernel_rfl) (bs s) ⟨#[32, 9]⟩ w (by rw [bs_size]; omega) (by decide) (by
    intro j b hj
    have hj' : ([32, 9] : BL)[j]? = some b := hj
    match j, hj' with
    | 0, h => cases h; decide
    | 1, h => cases h; decide)
  refine Calls.mono h fun e w' ⟨h1, h2⟩ => ⟨?_, h2⟩
  rw [h1, bs_data]
  rw [show (⟨#[32, 9]⟩ : ByteArray).data.toList = [32, 9] from rfl, trimS_eq]
  rfl

set_option maxHeartbeats 400000 in
theorem Items_calls (v : Value) (hv : ∃ a n c, v = .slice a n c) (w : World) :
    Calls Tryd.prog 29 #[v] w fun e w' => e = .returned (.func (.func 49) #[] #[.pointer (some ⟨w.heap.size, 0, none⟩)]) ∧ w.alloc (.cells #[v] 60) = w' := by
  obtain ⟨a, n, c, rfl⟩ := hv
  go_enter Tryd.func29, Tryd.ntmps29
  go_wp2
  go_ret
  exact ⟨rfl, rfl⟩

/-- texts that lie below B -/
def RS (B : Nat) (W : World) (v : Value) (l : List BL) : Prop :=
  (v = .slice none 0 0 ∧ l = []) ∨ ∃ gg cap cur fz, v = .slice (some ⟨gg, 0, none⟩) l.length cap ∧ gg < B ∧ l.length ≤ cap ∧ W.heap[gg]? = some (.cells cur 9 fz) ∧ cur.toList.take l.length = l.map sV
theorem RS.kp {B : Nat} {W W' : World} {v : Value} {l : List BL} (h : RS B W v l) (hk : KpB B W W') : RS B W' v l := by
  rcases h with h | ⟨gg, cap, cur, fz, h1, h2, h3, h4, h5⟩
  · exact .inl h
  · exact .inr ⟨gg, cap, cur, fz, h1, h2, h3, (hk gg h2).trans h4, h5⟩
theorem RS.cell {B : Nat} {W : World} {v : Value} {l : List BL} (h : RS B W v l) {k : Nat} {x : BL} (hx : l[k]? = some x) : ∃ gg cap, v = .slice (some ⟨gg, 0, none⟩) l.length cap ∧ W.cell? ⟨gg, k, none⟩ = some (sV x) := by
  have hk := (List.getElem?_eq_some_iff.1 hx).1
  rcases h with ⟨_, rfl⟩ | ⟨gg, cap, cur, fz, h1, h2, h3, h4, h5⟩
  · simp at hk
  · refine ⟨gg, cap, h1, ?_⟩
    have h6 : (cur.toList.take l.length)[k]? = some (sV x) := by rw [h5, List.getElem?_map, hx]; rfl
    rw [List.getElem?_take_of_lt hk] at h6
    simp only [World.cell?, h4]
    simpa using h6
theorem OwS.rs {w : World} {B : Nat} {v : Value} {l : List BL} (h : OwS w B v l) : RS w.heap.size w v l := by
  rcases h.2 with ⟨rfl, h0⟩ | ⟨g, cap, cur, rfl, hb, hg, h3, h4, h5, h6⟩
  · exact .inl ⟨rfl, List.eq_nil_of_length_eq_zero h0⟩
  · exact .inr ⟨g, cap, cur, _, rfl, lt_of_block hg, h3, hg, by simpa using h6⟩
theorem KpB.size {B : Nat} {W W' : World} (h : KpB B W W') (hB : B ≤ W.heap.size) : B ≤ W'.heap.size := by
  cases B with
  | zero => omega
  | succ B =>
    have h1 := h B (by omega)
    have h2 := Array.getElem?_eq_getElem (xs := W.heap) (i := B) (by omega)
    rw [h2] at h1
    have := (Array.getElem?_eq_some_iff.1 h1).1
    omega
theorem KpB.of_below {B : Nat} {W W' : World} (h : Below W.heap.size W W') (hB : B ≤ W.heap.size) : KpB B W W' := fun k hk => h.block k (by omega)
theorem abides_below {α : Type} {B : Nat} {J : List α → World → Prop} (h : AbidesFrom B J) {pre : List α} {W W' : World} (hj : J pre W) (hb : Below W.heap.size W W') : J pre W' :=
  h pre W W' none hj ⟨hb.os, hb.tape, hb.output, hb.size, fun k hk _ => hb.block k hk⟩ nofun

theorem itemsR_step (s : BL) (hs : s ≠ []) : itemsR s = (if trimL (s.take (commaL false s)) = [] then [] else [trimL (s.take (commaL false s))]) ++ itemsR (s.drop (commaL false s + 1)) := by
  obtain ⟨f, hf⟩ : ∃ f, s.length = f + 1 := ⟨s.length - 1, by have : s.length ≠ 0 := fun h => hs (List.eq_nil_of_length_eq_zero h); omega⟩
  rw [← itemsP_eq (f + 1) s (by omega), itemsP, if_neg hs, itemsP_eq f _ (by rw [List.length_drop]; omega)]
theorem itemsR_nil : itemsR [] = [] := by simp [itemsR, runI, trimL, dropBl]
theorem allItems_snoc (vs : List BL) (k : Nat) (v : BL) (h : vs[k]? = some v) : allItems (vs.take (k + 1)) = allItems (vs.take k) ++ itemsR v := by
  unfold allItems
  rw [List.take_add_one, h]
  simp
def sLen : Value → Nat
  | .string b => b.size
  | _ => 0

def ItRel (B : Nat) (W : World) (J : List BL → World → Prop) (vs : List BL) (k : Nat) (wr : World) : Prop := k ≤ vs.length ∧ J (allItems (vs.take k)) wr ∧ KpB B W wr ∧ B ≤ wr.heap.size
def InRel (B : Nat) (W : World) (J : List BL → World → Prop) (vs : List BL) (k : Nat) (s : BL) (wr : World) : Prop :=
  ∃ done v, vs[k]? = some v ∧ done ++ itemsR s = itemsR v ∧ s.length ≤ v.length ∧ J (allItems (vs.take k) ++ done) wr ∧ KpB B W wr ∧ B ≤ wr.heap.size

set_option maxRecDepth 100000 in
set_option maxHeartbeats 4000000 in
theorem Items1_in (d : Nat) (hd : 1 ≤ d) (l g B : Nat) (v : Value) (vs : List BL) (hvs : vs.length ≤ 1048576) (hvl : ∀ x ∈ vs, x.length ≤ 1048576) (N : Nat) (hN : (allItems vs).length ≤ N)
    (J Jx : List BL → World → Prop)
    (hY : ∀ pre x W, J pre W → pre.length < N → YieldAt Fence.wide (d - 1) Tryd.prog l #[sV x] W fun e W' =>
      (e = .returned (.bool true) ∧ J (pre ++ [x]) W' ∧ KpB B W W') ∨ (e = .returned (.bool false) ∧ Jx (pre ++ [x]) W'))
    (W : World) (hBW : B ≤ W.heap.size) (hJd : AbidesFrom W.heap.size J) (_ : g < B) (hs : W.heap[g]? = some (.cells #[v] 60 (0, 0))) (hr : RS B W v vs) (h0 : J [] W) :
    CallsIn Fence.wide d Tryd.prog 49 #[.func (.yield l) #[] #[], .pointer (some ⟨g, 0, none⟩)] W fun e W' => (∃ v, e = .returned v) ∧
      ((∃ ys, ys = allItems vs ∧ J ys W') ∨ (∃ pre, True ∧ Jx pre W')) := by
  have hcs : W.cell? ⟨g, 0, none⟩ = some v := (blk_cell hs 0).trans rfl
  obtain ⟨av, nv, cv, hv⟩ : ∃ a n c, v = .slice a n c := by
    rcases hr with ⟨h, _⟩ | ⟨gg, cap, cur, fz, h, _⟩
    · exact ⟨_, _, _, h⟩
    · exact ⟨_, _, _, h⟩
  have hnv : nv = vs.length := by
    rcases hr with ⟨h, h'⟩ | ⟨gg, cap, cur, fz, h, _⟩
    · rw [hv] at h; cases h; rw [h']; rfl
    · rw [hv] at h; cases h; rfl
  subst hnv
  have HR := Lib.hid hr
  have HJ := Lib.hid hJd
  have HY := Lib.hid hY
  have HN := Lib.hid hN
  have HVL := Lib.hid hvl
  have HBW := Lib.hid hBW
  have HIT := Lib.hid (show ItRel B W J vs 0 W from ⟨Nat.zero_le _, h0, fun _ _ => rfl, hBW⟩)
  subst hv
  clear hr hJd hY hN hvl hBW h0 hs
  refine callsIn_of_wp Tryd.func49 rfl trivial ?_ rfl
  simp only [Tryd.ntmps49, List.size_toArray, List.length_cons, List.length_nil, Nat.reduceAdd, Nat.reduceSub, Array.replicate_succ, Array.replicate_zero, List.push_toArray, List.append_toArray, List.nil_append, List.cons_append]
  gi_wp2
  gi_loopw [9] (fun i wr => ∃ k : Nat, i = .int .i64 k ∧ ItRel B W J vs k wr) (fun i _ => vs.length - (intOf i).toNat)
  case atStart => exact ⟨0, rfl, HIT.out⟩
  case round =>
    obtain ⟨k, rfl, hk, hJ, hK, hsz⟩ := hrel
    obtain ⟨wo, rfl⟩ : ∃ wo : World, wo = wr := ⟨_, rfl⟩
    by_cases hlt : k < vs.length
    · obtain ⟨x, hx⟩ : ∃ x, vs[k]? = some x := ⟨_, List.getElem?_eq_getElem hlt⟩
      obtain ⟨gg, cap, hve, hcell⟩ := (HR.out.kp hK).cell hx
      injection hve with e1 e2 e3
      subst e1
      have HX := Lib.hid hx
      have HIN := Lib.hid (show InRel B W J vs k x wo from ⟨[], x, hx, rfl, Nat.le_refl _, by rw [List.append_nil]; exact hJ, hK, hsz⟩)
      clear hx hJ hK hsz e3
      gi_wp2
      gi_loopw [4] (fun s4 wr => ∃ s, s4 = sV s ∧ InRel B W J vs k s wr) (fun s4 _ => sLen s4)
      case atStart => exact ⟨x, rfl, HIN.out⟩
      case round =>
        obtain ⟨s, rfl, done, v0, hv0, hdn, hsl, hJ, hK, hsz⟩ := hrel
        have hv1 : v0.length ≤ 1048576 := HVL.out v0 (List.mem_of_getElem? hv0)
        by_cases hs0 : s = []
        · subst hs0
          rw [itemsR_nil, List.append_nil] at hdn
          subst hdn
          have HNX := Lib.hid (show ItRel B W J vs (k + 1) wr from ⟨hlt, by rw [allItems_snoc vs k v0 hv0]; exact hJ, hK, hsz⟩)
          have e0 : (bs []).toList = [] := bs_toList []
          have e1 : (bs []).toList.isEmpty = true := by rw [bs_toList]; rfl
          clear hv0 hsl hJ hK hsz hv1
          gi_wp2
          go_roundw
          case rel => exact ⟨k + 1, by go_num, HNX.out⟩
          case measure => simp [intOf]; omega
        · have e0 : ¬ (bs s).toList = [] := by rw [bs_toList]; exact hs0
          have e1 : (bs s).toList.isEmpty = false := by rw [bs_toList]; simpa using hs0
          have hstep := itemsR_step s hs0
          have hcl := commaL_le false s
          have HC := Lib.hid (fun w => comma_calls s (by omega) w)
          obtain ⟨c, hc⟩ : ∃ c, commaL false s = c := ⟨_, rfl⟩
          rw [hc] at hstep hcl HC
          have HT := Lib.hid (fun w => Trim_calls (s.take c) (by rw [List.length_take]; omega) w)
          obtain ⟨it, hit⟩ : ∃ it, trimL (s.take c) = it := ⟨_, rfl⟩
          rw [hit] at hstep HT
          have hz : (bs s).size = s.length := bs_size s
          have hx0 : (bs s).extract 0 c = bs (s.take c) := by rw [bs_extract]; simp
          have hx1 : (bs s).extract (min ((c : Int) + 1) (s.length : Int)).toNat s.length = bs (s.drop (c + 1)) := by
            rw [bs_extract, show (min ((c : Int) + 1) (s.length : Int)).toNat = min (c + 1) s.length from by omega, List.take_of_length_le (by rw [List.length_drop]; exact Nat.le_refl _)]
            by_cases h : c + 1 ≤ s.length
            · rw [Nat.min_eq_left h]
            · rw [Nat.min_eq_right (by omega), List.drop_length, List.drop_eq_nil_of_le (by omega)]
          have hlen0 : 0 < s.length := by have : s.length ≠ 0 := fun h => hs0 (List.eq_nil_of_length_eq_zero h); omega
          have hrl : (s.drop (c + 1)).length < s.length := by rw [List.length_drop]; omega
          obtain ⟨r, hr⟩ : ∃ r, s.drop (c + 1) = r := ⟨_, rfl⟩
          rw [hr] at hstep hx1 hrl
          have hlim : s.length ≤ 1048576 := by omega
          have HRL : Hid (sLen (sV r) < sLen (sV s)) := Lib.hid (by show (bs r).size < (bs s).size; rw [bs_size, bs_size]; exact hrl)
          have HJB := Lib.hid (show ∀ w1 w2, Below wr.heap.size wr w1 → Below w1.heap.size w1 w2 → J (allItems (vs.take k) ++ done) w2 ∧ KpB B W w2 ∧ B ≤ w2.heap.size from fun w1 w2 b1 b2 =>
            have b : Below wr.heap.size wr w2 := b1.trans (b2.mono b1.size)
            ⟨abides_below HJ.out hJ b, hK.trans (KpB.of_below b hsz), Nat.le_trans hsz b.size⟩)
          by_cases hit0 : it = []
          · subst hit0
            rw [if_pos rfl, List.nil_append] at hstep
            have HNX := Lib.hid (show ∀ w1 w2, Below wr.heap.size wr w1 → Below w1.heap.size w1 w2 → InRel B W J vs k r w2 from fun w1 w2 b1 b2 =>
              have h := HJB.out w1 w2 b1 b2
              ⟨done, v0, hv0, by rw [← hstep]; exact hdn, by omega, h.1, h.2.1, h.2.2⟩)
            have e2 : (bs []).toList.isEmpty = true := by rw [bs_toList]; rfl
            clear hstep hv0 hdn hK hsz hJ hc hit hsl hv1 hr hrl hs0
            gi_wp2_with (first
              | (refine ⟨trivial, ?_⟩; gi_at_call 50; refine (callsIn_wide.2 (HC.out _)).mono ?_; rintro e w1 ⟨rfl, hb1⟩; have HB1 := Lib.hid hb1; clear hb1)
              | (refine ⟨trivial, ?_⟩; gi_at_call 51; refine (callsIn_wide.2 (HT.out _)).mono ?_; rintro e w2 ⟨rfl, hb2⟩; have HB2 := Lib.hid hb2; clear hb2))
            refine ⟨nofun, ?_⟩
            gi_wp2
            go_roundw
            case rel => exact ⟨r, rfl, HNX.out _ _ HB1.out HB2.out⟩
            case measure => exact HRL.out
          · rw [if_neg hit0] at hstep
            have e2 : (bs it).toList.isEmpty = false := by rw [bs_toList]; simpa using hit0
            have HYY := Lib.hid (show ∀ w1 w2, Below wr.heap.size wr w1 → Below w1.heap.size w1 w2 → YieldAt Fence.wide (d - 1) Tryd.prog l #[sV it] w2 fun e W' =>
                (e = .returned (.bool true) ∧ InRel B W J vs k r W') ∨ (e = .returned (.bool false) ∧ Jx (allItems (vs.take k) ++ done ++ [it]) W') from fun w1 w2 b1 b2 => by
              have h := HJB.out w1 w2 b1 b2
              have hall : allItems (vs.take k) ++ done ++ [it] ++ itemsR r ++ allItems (vs.drop (k + 1)) = allItems vs := by
                have e1 : allItems vs = allItems (vs.take (k + 1)) ++ allItems (vs.drop (k + 1)) := by
                  unfold allItems
                  rw [← List.flatten_append, ← List.map_append, List.take_append_drop]
                rw [e1, allItems_snoc vs k v0 hv0, ← hdn, hstep]
                simp
              have hlen := congrArg List.length hall
              simp only [List.length_append, List.length_cons, List.length_nil] at hlen
              have hy := HY.out (allItems (vs.take k) ++ done) it w2 h.1 (by have := HN.out; rw [List.length_append]; omega)
              refine hy.mono ?_
              rintro e W' (⟨h1, h2, h3⟩ | ⟨h1, h2⟩)
              · refine .inl ⟨h1, done ++ [it], v0, hv0, by rw [List.append_assoc, ← hstep]; exact hdn, by omega, by rw [← List.append_assoc]; exact h2, h.2.1.trans h3, KpB.size h3 h.2.2⟩
              · exact .inr ⟨h1, h2⟩)
            clear hstep hv0 hdn hK hsz hJ hc hit hsl hv1 hr hrl hs0 HJB
            gi_wp2_with (first
              | (refine ⟨trivial, ?_⟩; gi_at_call 50; refine (callsIn_wide.2 (HC.out _)).mono ?_; rintro e w1 ⟨rfl, hb1⟩; have HB1 := Lib.hid hb1; clear hb1)
              | (refine ⟨trivial, ?_⟩; gi_at_call 51; refine (callsIn_wide.2 (HT.out _)).mono ?_; rintro e w2 ⟨rfl, hb2⟩; obtain ⟨fn, tmps, assign, body, hy, hR⟩ := HYY.out _ _ HB1.out hb2; have HRR := Lib.hid hR; clear hb2 hR))
            refine HRR.out.mono ?_
            rintro e W3 (⟨rfl, hin⟩ | ⟨rfl, hJx3⟩)
            · have HIN3 := Lib.hid hin
              clear hin hy
              gi_wp2
              go_roundw
              case rel => exact ⟨r, rfl, HIN3.out⟩
              case measure => exact HRL.out
            · have HJX := Lib.hid hJx3
              clear hJx3 hy
              gi_wp2
              refine bodyPost_ret (results_none rfl _ _ _) rfl ?_
              exact ⟨⟨_, rfl⟩, .inr ⟨_, trivial, HJX.out⟩⟩
    · have hkk : k = vs.length := by omega
      subst hkk
      rw [List.take_length] at hJ
      have HJJ := Lib.hid hJ
      clear hJ hK hsz
      gi_wp2
      go_end0
      exact ⟨⟨_, rfl⟩, .inl ⟨_, rfl, HJJ.out⟩⟩

/-- the items of texts that lie below B -/
theorem Items1_stops (g B : Nat) (v : Value) (vs : List BL) (hvs : vs.length ≤ 1048576) (hvl : ∀ x ∈ vs, x.length ≤ 1048576) (w W0 : World) (hw : B ≤ w.heap.size) (hb0 : Below w.heap.size w W0) (hgB : g < B) (hs : w.heap[g]? = some (.cells #[v] 60 (0, 0))) (hr : RS B w v vs) :
    SeqStopsK Fence.wide 7 Tryd.prog 49 #[.pointer (some ⟨g, 0, none⟩)] (fun x => #[sV x]) (KpB B) (fun ys => ys = allItems vs) (fun _ => True) (allItems vs).length W0 := fun l J Jx W hW hJ hJx hY h0 =>
  have hb : Below w.heap.size w W := hb0.trans (hW.mono hb0.size)
  Items1_in 7 (by omega) l g B v vs hvs hvl _ (Nat.le_refl _) J Jx hY W (Nat.le_trans hw hb.size) hJ hgB ((hb.block g (by omega)).trans hs) (hr.kp (KpB.of_below hb hw)) h0
theorem allItems_lim (vs : List BL) (hvs : vs.length ≤ 1048576) (hvl : ∀ x ∈ vs, x.length ≤ 1048576) : (allItems vs).length ≤ 4398046511104 := by
  have := allItems_len vs 1048576 hvl
  have h2 : vs.length * (1048576 + 1) ≤ 1048576 * 1048577 := Nat.mul_le_mul hvs (Nat.le_refl _)
  omega
/-- Collect of what Items made -/
theorem CollectItems_calls (w : World) (g : Nat) (v : Value) (vs : List BL) (hvs : vs.length ≤ 1048576) (hvl : ∀ x ∈ vs, x.length ≤ 1048576) (hs : w.heap[g]? = some (.cells #[v] 60 (0, 0))) (hr : RS w.heap.size w v vs) :
    Calls Tryd.prog 28 #[.func (.func 49) #[] #[.pointer (some ⟨g, 0, none⟩)]] w fun e w' => ∃ v, e = .returned v ∧ OwS w' w.heap.size v (allItems vs) ∧ Below w.heap.size w w' :=
  Collect_calls 49 #[.pointer (some ⟨g, 0, none⟩)] (enters_of Tryd.func49 (by kernel_rfl) rfl) (allItems vs) (allItems vs).length (allItems_lim vs hvs hvl) w
    (fun W hW => Items1_stops g w.heap.size v vs hvs hvl w W (Nat.le_refl _) hW (lt_of_block hs) hs hr)
end Go.Proofs.YteneioapchhehaaDoor

/- frame.size, walked: the one number that items are. -/
namespace Go.Proofs.YteneioapchhehaaDoor
open Go.RowKit Go.Shelf Go.Proofs.YteneioapchhehaaDoorW.PrintWords

def digs (l : BL) : Prop := ∀ c ∈ l, 48 ≤ c.toNat ∧ c.toNat ≤ 57
theorem not_digs {l : BL} (h : ¬ digs l) : ∃ c ∈ l, ¬ (48 ≤ c.toNat ∧ c.toNat ≤ 57) := by
  unfold digs at h
  simp only [Classical.not_forall] at h
  obtain ⟨c, hc, hd⟩ := h
  exact ⟨c, hc, hd⟩
theorem digit_u8 (c : UInt8) : (c < 48 ∨ 57 < c) ↔ ¬ (48 ≤ c.toNat ∧ c.toNat ≤ 57) := by
  rw [UInt8.lt_iff_toNat_lt, UInt8.lt_iff_toNat_lt]
  have e48 : (48 : UInt8).toNat = 48 := rfl
  have e57 : (57 : UInt8).toNat = 57 := rfl
  omega
theorem pum_ok : ∀ (l : BL) (acc i : Nat), digs l → acc < 10 ^ i → i + l.length ≤ 18 → ∃ u, Lib.parseUintM (2 ^ 64 - 1) acc l = .ok u ∧ (u : Int) = numL l acc ∧ u < 10 ^ 18
  | [], acc, i, _, ha, hi => ⟨acc, rfl, rfl, Nat.lt_of_lt_of_le ha (Nat.pow_le_pow_right (by decide) (by simpa using hi))⟩
  | c :: l, acc, i, hd, ha, hi => by
    simp only [List.length_cons] at hi
    have hc := hd c (List.mem_cons_self ..)
    have hp : 10 ^ i ≤ 10 ^ 17 := Nat.pow_le_pow_right (by decide) (by omega)
    have e17 : (10 : Nat) ^ 17 = 100000000000000000 := by decide
    rw [e17] at hp
    have hps : (10 : Nat) ^ (i + 1) = 10 ^ i * 10 := Nat.pow_succ ..
    have em : (2 : Nat) ^ 64 - 1 = 18446744073709551615 := by decide
    obtain ⟨u, h1, h2, h3⟩ := pum_ok l (acc * 10 + (c.toNat - 48)) (i + 1) (fun d hd' => hd d (List.mem_cons_of_mem _ hd')) (by omega) (by omega)
    refine ⟨u, ?_, ?_, h3⟩
    · rw [Lib.parseUintM, if_pos hc, if_neg (by omega), if_neg (by omega)]
      exact h1
    · rw [numL, if_neg (fun h => (digit_u8 c).1 h hc), h2]
      congr 1
      omega
theorem pum_no : ∀ (l : BL) (acc u : Nat), (∃ c ∈ l, ¬ (48 ≤ c.toNat ∧ c.toNat ≤ 57)) → Lib.parseUintM (2 ^ 64 - 1) acc l ≠ .ok u
  | [], _, _, h => by obtain ⟨c, hc, _⟩ := h; cases hc
  | c :: l, acc, u, h => by
    rw [Lib.parseUintM]
    split
    · rename_i hc
      split
      · intro h; cases h
      · split
        · intro h; cases h
        · refine pum_no l _ u ?_
          obtain ⟨d, hd, hdd⟩ := h
          rcases List.mem_cons.1 hd with rfl | hd
          · exact absurd hc hdd
          · exact ⟨d, hd, hdd⟩
    · intro h; cases h

/-- is a rune no digit? -/
def ndR (r : Nat) : Bool := decide (r < 48) || decide (57 < r)
def oddB (l : BL) : Bool := decide (0 ≤ Lib.idxFunc ndR true (bs l))
theorem bs_at (l : BL) (pos : Nat) (h : pos < (bs l).size) : (bs l)[pos]'h = l[pos]'(by rw [bs_size] at h; exact h) := rfl
theorem idx_digs (l : BL) (hd : digs l) : ∀ (f pos : Nat), Lib.idxFuncFrom ndR true (bs l) f pos = -1
  | 0, _ => rfl
  | f + 1, pos => by
    rw [Lib.idxFuncFrom]
    split
    · rename_i hp
      have hp' : pos < l.length := by rw [bs_size] at hp; exact hp
      have hc := hd _ (List.getElem_mem hp')
      have he := decode_ascii (bs l) pos hp (by rw [bs_at]; omega)
      rw [he, bs_at]
      have : ndR (l[pos].toNat) = false := by unfold ndR; rw [decide_eq_false (by omega), decide_eq_false (by omega)]; rfl
      dsimp only
      rw [if_neg (by rw [this]; decide)]
      exact idx_digs l hd f _
    · rfl
theorem odd_digs {l : BL} (hd : digs l) : oddB l = false := by
  unfold oddB Lib.idxFunc
  rw [idx_digs l hd]
  rfl
theorem odd_first {c : UInt8} {l : BL} (h1 : ¬ (48 ≤ c.toNat ∧ c.toNat ≤ 57)) (h2 : c.toNat < 128) : oddB (c :: l) = true := by
  have hs : (bs (c :: l)).size = l.length + 1 := by rw [bs_size]; rfl
  have hz : Lib.idxFuncFrom ndR true (bs (c :: l)) (l.length + 1) 0 = 0 := by
    rw [Lib.idxFuncFrom, if_pos (by rw [hs]; omega)]
    have he := decode_ascii (bs (c :: l)) 0 (by rw [hs]; omega) (by rw [bs_at]; exact h2)
    rw [he, bs_at]
    have : ndR c.toNat = true := by
      unfold ndR
      by_cases h : c.toNat < 48
      · rw [decide_eq_true h]; rfl
      · rw [decide_eq_false h, decide_eq_true (by omega)]; rfl
    exact if_pos this
  unfold oddB Lib.idxFunc
  rw [hs]
  exact decide_eq_true (by rw [hz]; exact Int.le_refl _)
theorem pib_digs {l : BL} (hd : digs l) (h1 : 1 ≤ l.length) (h2 : l.length ≤ 18) : Lib.parseIntB 64 l = .ok (numR l) ∧ 0 ≤ numR l := by
  obtain ⟨u, e1, e2, e3⟩ := pum_ok l 0 0 hd (by decide) (by omega)
  have e18 : (10 : Nat) ^ 18 = 1000000000000000000 := by decide
  rw [e18] at e3
  have hn : numR l = (u : Int) := by unfold numR; rw [if_neg (by omega)]; exact e2.symm
  rw [hn]
  cases l with
  | nil => simp at h1
  | cons c r =>
    have hc := hd c (List.mem_cons_self ..)
    unfold Lib.parseIntB
    dsimp only
    rw [if_neg (show ¬ (c.toNat = 43 ∨ c.toNat = 45) by omega)]
    unfold Lib.parseUintB
    rw [if_neg (by simp), e1]
    dsimp only
    have e63 : (2 : Nat) ^ (64 - 1) = 9223372036854775808 := by decide
    rw [e63, if_neg (by omega), if_neg (by omega), if_neg (by omega)]
    exact ⟨rfl, by omega⟩
/-- of what is no number: why -/
theorem no_number {l : BL} (h : ¬ (digs l ∧ 1 ≤ l.length ∧ l.length ≤ 18)) : numR l = -1 ∧ (oddB l = true ∨ (∀ v, Lib.parseIntB 64 l ≠ .ok v) ∨ 18 < l.length) := by
  by_cases h18 : 18 < l.length
  · exact ⟨by unfold numR; rw [if_pos (.inr h18)], .inr (.inr h18)⟩
  cases l with
  | nil => exact ⟨rfl, .inr (.inl (fun v h => by cases h))⟩
  | cons c r =>
    have hnd : ¬ digs (c :: r) := fun hd => h ⟨hd, by simp, by omega⟩
    obtain ⟨d, hd1, hd2⟩ := not_digs hnd
    refine ⟨?_, ?_⟩
    · unfold numR
      rw [if_neg (by simp at h18 ⊢; omega)]
      exact numL_nd _ _ ⟨d, hd1, (digit_u8 d).2 hd2⟩
    · by_cases hc : ¬ (48 ≤ c.toNat ∧ c.toNat ≤ 57) ∧ c.toNat < 128
      · exact .inl (odd_first hc.1 hc.2)
      · refine .inr (.inl fun v hv => ?_)
        unfold Lib.parseIntB at hv
        dsimp only at hv
        rw [if_neg (show ¬ (c.toNat = 43 ∨ c.toNat = 45) by omega)] at hv
        unfold Lib.parseUintB at hv
        rw [if_neg (by simp)] at hv
        cases hp : Lib.parseUintM (2 ^ 64 - 1) 0 (c :: r) with
        | ok u => exact pum_no _ _ u ⟨d, hd1, hd2⟩ hp
        | _ => rw [hp] at hv; cases hv

set_option maxHeartbeats 400000 in
theorem size1_calls (x : Nat) (hx : x ≤ 1114111) (w : World) : Calls Tryd.prog 53 #[encR x] w fun e w' => e = .returned (.bool (ndR x)) ∧ Below w.heap.size w w' := by
  unfold encR ndR
  by_cases h1 : x < 48
  · have t1 : decide ((x : Int) < 48) = true := decide_eq_true (by omega)
    rw [decide_eq_true h1]
    go_enter Tryd.func53, Tryd.ntmps53
    go_wp2
    go_ret
    exact ⟨rfl, Below.refl _ _⟩
  · have t1 : decide ((x : Int) < 48) = false := decide_eq_false (by omega)
    rw [decide_eq_false h1]
    by_cases h2 : 57 < x
    · have t2 : decide ((57 : Int) < (x : Int)) = true := decide_eq_true (by omega)
      rw [decide_eq_true h2]
      go_enter Tryd.func53, Tryd.ntmps53
      go_wp2
      go_ret
      exact ⟨rfl, Below.refl _ _⟩
    · have t2 : decide ((57 : Int) < (x : Int)) = false := decide_eq_false (by omega)
      rw [decide_eq_false h2]
      go_enter Tryd.func53, Tryd.ntmps53
      go_wp2
      go_ret
      exact ⟨rfl, Below.refl _ _⟩
theorem Contains_calls (l : BL) (w : World) : Calls Tryd.prog 52 #[.string (bs l), .func (.func 53) #[] #[]] w fun e w' => e = .returned (.bool (oddB l)) ∧ Below w.heap.size w w' :=
  Tryd.strings_ContainsFunc_grows 53 #[] (enters_of Tryd.func53 (by kernel_rfl) rfl) ndR (bs l) w (fun W x hx _ => size1_calls x hx W)

def PIP (w : World) (x : BL) (e : Ending) (w' : World) : Prop :=
  ∃ n ev, e = .returned (.tuple #[.int .i64 n, ev]) ∧ ((ev = .nilIface ∧ Lib.parseIntB 64 x = .ok n) ∨ ((∃ t p, ev = .iface t p) ∧ ∀ v, Lib.parseIntB 64 x ≠ .ok v)) ∧ Below w.heap.size w w'
theorem PI_calls (x : BL) (hx : x.length ≤ 140737488355328) (w : World) (h1 : ErrVar 0 w) (h2 : ErrVar 1 w) : Calls Tryd.prog 54 #[.string (bs x), .int .i64 10, .int .i64 64] w (PIP w x) := by
  obtain ⟨ev1, c1, k1⟩ := h1
  obtain ⟨ev2, c2, k2⟩ := h2
  cases hp : Lib.parseIntB 64 x with
  | ok v =>
    refine (Tryd.strconv_ParseInt_10_at64_ok (bs x) (by rw [bs_size]; omega) v (by rw [bs_data]; exact hp) w).mono ?_
    rintro e w' ⟨rfl, hw⟩
    refine ⟨v, _, rfl, .inl ⟨rfl, hp⟩, ?_⟩
    rcases hw with rfl | ⟨t, rfl⟩
    · exact Below.refl _ _
    · exact Lib.bytesWorld_below w _ t
  | range =>
    refine (Tryd.strconv_ParseInt_10_at64_range (bs x) (by rw [bs_size]; omega) (by rw [bs_data]; exact hp) ev2 w c2 k2).mono ?_
    rintro e w' ⟨N, rfl, _, _, hb⟩
    exact ⟨_, _, rfl, .inr ⟨⟨_, _, rfl⟩, fun v h => by rw [hp] at h; cases h⟩, hb⟩
  | _ =>
    refine (Tryd.strconv_ParseInt_10_at64_syntax (bs x) (by rw [bs_size]; omega) (by rw [bs_data]; exact hp) ev1 w c1 k1).mono ?_
    rintro e w' ⟨N, rfl, _, _, hb⟩
    exact ⟨0, _, rfl, .inr ⟨⟨_, _, rfl⟩, fun v h => by rw [hp] at h; cases h⟩, hb⟩
end Go.Proofs.YteneioapchhehaaDoor

/- frame.size, walked. -/
namespace Go.Proofs.YteneioapchhehaaDoor
open Go.RowKit Go.Shelf Go.Proofs.YteneioapchhehaaDoorW.PrintWords

def sizeV : Option Int → Value
  | none => .tuple #[.int .i64 0, .bool false]
  | some n => .tuple #[.int .i64 n, .bool true]
theorem sizeL_none {s : BL} {l : List BL} {x : BL} (hx : x ∈ s :: l) (h : ¬ (numR x = numR s ∧ 0 ≤ numR x ∧ numR x ≤ 1099511627776)) : sizeL (s :: l) = none := by
  unfold sizeL
  dsimp only
  rw [if_neg]
  rintro ⟨h1, h2, h3⟩
  rcases List.mem_cons.1 hx with rfl | hx
  · exact h ⟨rfl, h2, h3⟩
  · have := h1 x hx
    exact h ⟨this, by omega, by omega⟩

def SzRel (w : World) (s : BL) (it : List BL) (k : Nat) (a : Int) (wr : World) : Prop :=
  k ≤ it.length ∧ (k = 0 → a = -1) ∧ (0 < k → a = numR s ∧ 0 ≤ numR s ∧ numR s ≤ 1099511627776 ∧ ∀ j x, j < k → it[j]? = some x → numR x = numR s) ∧ Below w.heap.size w wr

set_option maxHeartbeats 4000000 in
set_option maxRecDepth 100000 in
theorem size_calls (w : World) (v : Value) (it : List BL) (hv : RS w.heap.size w v it) (hlen : it.length ≤ 4398046511104) (hl : ∀ x ∈ it, x.length ≤ 1048576) (hE1 : ErrVar 0 w) (hE2 : ErrVar 1 w) :
    Calls Tryd.prog 31 #[v] w fun e w' => e = .returned (sizeV (sizeL it)) ∧ Below w.heap.size w w' := by
  obtain ⟨av, cv, hve⟩ : ∃ a c, v = .slice a it.length c := by
    rcases hv with ⟨h, h'⟩ | ⟨gg, cap, cur, fz, h, _⟩
    · exact ⟨_, _, by rw [h, h']; rfl⟩
    · exact ⟨_, _, h⟩
  cases it with
  | nil =>
    subst hve
    clear hv hl hE1 hE2
    go_enter Tryd.func31, Tryd.ntmps31
    go_wp2_with fail
    go_ret2
    exact ⟨rfl, Below.refl _ _⟩
  | cons s l =>
    obtain ⟨it, hit⟩ : ∃ it, s :: l = it := ⟨_, rfl⟩
    have HM : Hid (∀ x, x ∈ it → x ∈ s :: l) := Lib.hid (fun x h => by rw [hit]; exact h)
    have HS0 : Hid (it[0]? = some s) := Lib.hid (by rw [← hit]; rfl)
    have HZ : Hid (0 < it.length) := Lib.hid (by rw [← hit]; simp)
    have HALL : Hid ((∀ j x, j < it.length → it[j]? = some x → numR x = numR s) → 0 ≤ numR s → numR s ≤ 1099511627776 → sizeL it = some (numR s)) := Lib.hid (fun h1 h2 h3 => by
      rw [← hit]
      unfold sizeL
      dsimp only
      rw [if_pos]
      refine ⟨fun x hx => ?_, h2, h3⟩
      obtain ⟨j, hj⟩ := List.mem_iff_getElem?.1 hx
      exact h1 (j + 1) x (by rw [← hit]; have := (List.getElem?_eq_some_iff.1 hj).1; simp; omega) (by rw [← hit]; exact hj))
    have HNO : Hid (∀ x, x ∈ it → ¬ (numR x = numR s ∧ 0 ≤ numR x ∧ numR x ≤ 1099511627776) → sizeL it = none) := Lib.hid (fun x hx h => by rw [← hit]; exact sizeL_none (HM.out x hx) h)
    rw [hit] at hv hlen hl hve ⊢
    have HR := Lib.hid hv
    have HL := Lib.hid hl
    have HE1 := Lib.hid hE1
    have HE2 := Lib.hid hE2
    have hz0 : ((it.length : Int) == 0) = false := beq_eq_false_iff_ne.2 (by have := HZ.out; omega)
    subst hve
    clear hv hl hE1 hE2 hit
    go_enter Tryd.func31, Tryd.ntmps31
    go_wp2_with fail
    go_loopw [4, 15] (fun v4 v15 wr => ∃ (k : Nat) (a : Int), v15 = .int .i64 k ∧ v4 = .int .i64 a ∧ SzRel w s it k a wr) (fun _ v15 _ => it.length - (intOf v15).toNat)
    case atStart => exact ⟨0, -1, rfl, rfl, Nat.zero_le _, fun _ => rfl, fun h => absurd h (Nat.lt_irrefl _), Below.refl _ _⟩
    case round =>
      obtain ⟨k, a, rfl, rfl, hk, hk0, hk1, hb⟩ := hrel
      by_cases hlt : k < it.length
      · obtain ⟨x, hx⟩ : ∃ x, it[k]? = some x := ⟨_, List.getElem?_eq_getElem hlt⟩
        obtain ⟨gg, cap, hve, hcell⟩ := (HR.out.kp (KpB.of_below hb (Nat.le_refl _))).cell hx
        injection hve with e1 e2 e3
        subst e1
        have hxl := HL.out x (List.mem_of_getElem? hx)
        have HC := Lib.hid (fun W => Contains_calls x W)
        have HP := Lib.hid (fun W (h : Below w.heap.size w W) => PI_calls x (by omega) W (GV_below HE1.out h) (GV_below HE2.out h))
        have hsz : (bs x).size = x.length := bs_size x
        have HXM := Lib.hid (List.mem_of_getElem? hx)
        have HX := Lib.hid hx
        have HB := Lib.hid hb
        have HK := Lib.hid hlt
        have HK2 : Hid (wrap64 ((k : Int) + 1) = ((k + 1 : Nat) : Int)) := Lib.hid (by rw [IntWalk.wrap64_in _ (by omega)]; rfl)
        obtain ⟨n, hn⟩ : ∃ n, numR x = n := ⟨_, rfl⟩
        have HN := Lib.hid hn
        have HK0 := Lib.hid hk0
        have HK1 := Lib.hid hk1
        clear hx hb e3 hk hk0 hk1
        by_cases hdg : digs x ∧ 1 ≤ x.length ∧ x.length ≤ 18
        · obtain ⟨hpp, hpos⟩ := pib_digs hdg.1 hdg.2.1 hdg.2.2
          rw [hn] at hpp hpos
          have HPP := Lib.hid hpp
          have ho := odd_digs hdg.1
          rw [ho] at HC
          have t1 : decide ((18 : Int) < (x.length : Int)) = false := decide_eq_false (by omega)
          clear hdg hpp ho hn hxl
          by_cases hbig : 1099511627776 < n
          · have t2 : decide ((1099511627776 : Int) < n) = true := decide_eq_true hbig
            have HNX := Lib.hid (HNO.out x HXM.out (fun h => by have := h.2.2; rw [HN.out] at this; omega))
            clear hbig hpos
            go_wp2_with fail
            refine (HC.out _).mono ?_
            rintro e w1 ⟨rfl, hb1⟩
            have HB1 := Lib.hid (HB.out.trans (hb1.mono HB.out.size))
            clear hb1
            go_wp2_with fail
            refine (HP.out _ HB1.out).mono ?_
            rintro e w2 ⟨n', ev, rfl, hh, hb2⟩
            rcases hh with ⟨rfl, hh⟩ | ⟨_, hh⟩
            · rw [HPP.out] at hh
              cases hh
              have HB2 := Lib.hid (HB1.out.trans (hb2.mono HB1.out.size))
              clear hb2
              go_wp2_with fail
              go_ret2
              exact ⟨by rw [HNX.out]; rfl, HB2.out⟩
            · exact absurd HPP.out (hh _)
          · have t2 : decide ((1099511627776 : Int) < n) = false := decide_eq_false hbig
            have t3 : decide ((0 : Int) ≤ n) = true := decide_eq_true hpos
            by_cases hk : k = 0
            · have ha := HK0.out hk
              subst ha
              have HREL := Lib.hid (show ∀ w', Below w.heap.size w w' → SzRel w s it (k + 1) n w' from fun w' hb' => by
                subst hk
                have hxs : x = s := by have := HX.out; rw [HS0.out] at this; cases this; rfl
                have hns : n = numR s := by rw [← HN.out, hxs]
                refine ⟨HK.out, fun h => by omega, fun _ => ⟨hns, by omega, by omega, fun j y hj hy => ?_⟩, hb'⟩
                obtain rfl : j = 0 := by omega
                rw [HS0.out] at hy; cases hy; rfl)
              clear hbig hpos hk
              go_wp2_with fail
              refine (HC.out _).mono ?_
              rintro e w1 ⟨rfl, hb1⟩
              have HB1 := Lib.hid (HB.out.trans (hb1.mono HB.out.size))
              clear hb1
              go_wp2_with fail
              refine (HP.out _ HB1.out).mono ?_
              rintro e w2 ⟨n', ev, rfl, hh, hb2⟩
              have HB2 := Lib.hid (HB1.out.trans (hb2.mono HB1.out.size))
              clear hb2
              rcases hh with ⟨rfl, hh⟩ | ⟨_, hh⟩
              · rw [HPP.out] at hh
                cases hh
                go_wp2_with fail
                go_roundw
                case rel => exact ⟨k + 1, n, by first | rfl | rw [HK2.out], rfl, HREL.out _ HB2.out⟩
                case measure => have := HK.out; simp [intOf]; omega
              · exact absurd HPP.out (hh _)
            · obtain ⟨ha, ha0, ha1, hall⟩ := HK1.out (Nat.pos_of_ne_zero hk)
              by_cases hna : n = a
              · subst hna
                have HREL := Lib.hid (show ∀ w', Below w.heap.size w w' → SzRel w s it (k + 1) n w' from fun w' hb' => by
                  refine ⟨HK.out, fun h => by omega, fun _ => ⟨ha, ha0, ha1, fun j y hj hy => ?_⟩, hb'⟩
                  by_cases hjk : j = k
                  · subst hjk
                    rw [HX.out] at hy; cases hy
                    rw [HN.out, ha]
                  · exact hall j y (by omega) hy)
                clear hbig hpos hk ha ha0 ha1 hall
                go_wp2_with fail
                refine (HC.out _).mono ?_
                rintro e w1 ⟨rfl, hb1⟩
                have HB1 := Lib.hid (HB.out.trans (hb1.mono HB.out.size))
                clear hb1
                go_wp2_with fail
                refine (HP.out _ HB1.out).mono ?_
                rintro e w2 ⟨n', ev, rfl, hh, hb2⟩
                have HB2 := Lib.hid (HB1.out.trans (hb2.mono HB1.out.size))
                clear hb2
                rcases hh with ⟨rfl, hh⟩ | ⟨_, hh⟩
                · rw [HPP.out] at hh
                  cases hh
                  go_wp2_with fail
                  go_roundw
                  case rel => exact ⟨k + 1, n, by first | rfl | rw [HK2.out], rfl, HREL.out _ HB2.out⟩
                  case measure => have := HK.out; simp [intOf]; omega
                · exact absurd HPP.out (hh _)
              · have HNX := Lib.hid (HNO.out x HXM.out (fun h => hna (by rw [← HN.out, h.1, ← ha])))
                have t4 : decide ((0 : Int) ≤ a) = true := decide_eq_true (by omega)
                have t5 : (n == a) = false := beq_eq_false_iff_ne.2 hna
                have t6 : (n != a) = true := bne_iff_ne.2 hna
                clear hbig hpos hk ha ha0 ha1 hall hna
                go_wp2_with fail
                refine (HC.out _).mono ?_
                rintro e w1 ⟨rfl, hb1⟩
                have HB1 := Lib.hid (HB.out.trans (hb1.mono HB.out.size))
                clear hb1
                go_wp2_with fail
                refine (HP.out _ HB1.out).mono ?_
                rintro e w2 ⟨n', ev, rfl, hh, hb2⟩
                have HB2 := Lib.hid (HB1.out.trans (hb2.mono HB1.out.size))
                clear hb2
                rcases hh with ⟨rfl, hh⟩ | ⟨_, hh⟩
                · rw [HPP.out] at hh
                  cases hh
                  go_wp2_with fail
                  go_ret2
                  exact ⟨by rw [HNX.out]; rfl, HB2.out⟩
                · exact absurd HPP.out (hh _)
        · obtain ⟨hm1, hwhy⟩ := no_number hdg
          have HNX := Lib.hid (HNO.out x HXM.out (fun h => by have := h.2.1; rw [hm1] at this; omega))
          obtain ⟨o, ho⟩ : ∃ o, oddB x = o := ⟨_, rfl⟩
          rw [ho] at HC hwhy
          clear hdg ho hn hm1
          cases o with
          | true =>
            clear hwhy
            go_wp2_with fail
            refine (HC.out _).mono ?_
            rintro e w1 ⟨rfl, hb1⟩
            have HB1 := Lib.hid (HB.out.trans (hb1.mono HB.out.size))
            clear hb1
            go_wp2_with fail
            refine (HP.out _ HB1.out).mono ?_
            rintro e w2 ⟨n', ev, rfl, hh, hb2⟩
            have HB2 := Lib.hid (HB1.out.trans (hb2.mono HB1.out.size))
            clear hb2
            clear hh
            go_wp2_with fail
            go_ret2
            exact ⟨by rw [HNX.out]; rfl, HB2.out⟩
          | false =>
            by_cases h18 : 18 < x.length
            · have t1 : decide ((18 : Int) < (x.length : Int)) = true := decide_eq_true (by omega)
              clear hwhy hxl
              go_wp2_with fail
              refine (HC.out _).mono ?_
              rintro e w1 ⟨rfl, hb1⟩
              have HB1 := Lib.hid (HB.out.trans (hb1.mono HB.out.size))
              clear hb1
              go_wp2_with fail
              refine (HP.out _ HB1.out).mono ?_
              rintro e w2 ⟨n', ev, rfl, hh, hb2⟩
              have HB2 := Lib.hid (HB1.out.trans (hb2.mono HB1.out.size))
              clear hb2
              rcases hh with ⟨rfl, -⟩ | ⟨⟨t, p, rfl⟩, -⟩
              · go_wp2_with fail
                go_ret2
                exact ⟨by rw [HNX.out]; rfl, HB2.out⟩
              · go_wp2_with fail
                go_ret2
                exact ⟨by rw [HNX.out]; rfl, HB2.out⟩
            · have HW : Hid (∀ v, Lib.parseIntB 64 x ≠ .ok v) := Lib.hid (by
                rcases hwhy with h | h | h
                · cases h
                · exact h
                · exact absurd h h18)
              clear hwhy hxl
              go_wp2_with fail
              refine (HC.out _).mono ?_
              rintro e w1 ⟨rfl, hb1⟩
              have HB1 := Lib.hid (HB.out.trans (hb1.mono HB.out.size))
              clear hb1
              go_wp2_with fail
              refine (HP.out _ HB1.out).mono ?_
              rintro e w2 ⟨n', ev, rfl, hh, hb2⟩
              have HB2 := Lib.hid (HB1.out.trans (hb2.mono HB1.out.size))
              clear hb2
              rcases hh with ⟨rfl, hh⟩ | ⟨⟨t, p, rfl⟩, -⟩
              · exact absurd hh (HW.out _)
              · go_wp2_with fail
                go_ret2
                exact ⟨by rw [HNX.out]; rfl, HB2.out⟩
      · obtain rfl : k = it.length := by omega
        obtain ⟨ha, ha0, ha1, hall⟩ := hk1 HZ.out
        have HF := Lib.hid (HALL.out hall ha0 ha1)
        have HA := Lib.hid ha
        have HB := Lib.hid hb
        clear hk hk0 hk1 hb ha ha0 ha1 hall
        go_wp2_with fail
        go_ret2
        exact ⟨by rw [HF.out, ← HA.out]; rfl, HB.out⟩
end Go.Proofs.YteneioapchhehaaDoor

/- frame.Of, walked: how a body ends. -/
namespace Go.Proofs.YteneioapchhehaaDoor
open Go.RowKit Go.Shelf Go.Proofs.YteneioapchhehaaDoor.PFr Go.Proofs.YteneioapchhehaaDoorW.PrintWords

/-- fields that lie at a slice -/
abbrev FsAt (w : World) (A : Option Addr) (fs : List (BL × BL)) : Prop := Kd.C k59 w A fs.length (fs.map fS)
theorem FsAt.below {w w' : World} {A : Option Addr} {fs : List (BL × BL)} (h : FsAt w A fs) (hb : Below w.heap.size w w') : FsAt w' A fs := Kd.C_below h hb
theorem kdS_cells (l : List BL) (cs : List Value) (h : Reps (fun (x : ByteArray) c => c = [Value.string x]) 1 (l.map bs) cs) : cs = l.map sV := by
  have hl : cs.length = l.length := by have := h.1; rw [List.length_map] at this; omega
  refine List.ext_getElem (by simp [hl]) fun j h1 h2 => ?_
  have hj : (l.map bs)[j]? = some (bs (l[j]'(by omega))) := by rw [List.getElem?_map, List.getElem?_eq_getElem (by omega)]; rfl
  have := h.2 j _ hj
  simp only [Nat.mul_one] at this
  have h3 := congrArg (fun x => x[0]?) this
  simp only [List.getElem?_take, List.getElem?_drop, Nat.add_zero] at h3
  rw [List.getElem?_eq_getElem h1] at h3
  simp at h3
  rw [h3]
  simp
theorem OwS.of_kd {w : World} {base : Nat} {v : Value} {l : List BL} (h : Kd.R Kd.string 9 w base (fun _ => True) v (l.map bs)) : OwS w base v l := by
  obtain ⟨-, inner, ho, hr⟩ := h
  have := kdS_cells l inner hr
  subst this
  rw [List.length_map] at ho
  exact ho
theorem FOf_calls (w : World) (A : Option Addr) (c : Nat) (fs : List (BL × BL)) (hf : FsOk fs) (hr : FsAt w A fs) (hc : fs.length ≤ c) (nm : BL) :
    Calls Tryd.prog 27 #[.slice A fs.length c, .string (bs nm)] w fun e w' => ∃ v, e = .returned v ∧ OwS w' w.heap.size v (ofL fs nm) ∧ Below w.heap.size w w' := by
  have h := field_Of.calls (fs.length + 1048580) A c (fs.map fS) (bs nm) _ w (by rw [List.length_map]; exact hr) (by rw [List.length_map]; exact hc) (p_Of fs hf nm)
  rw [List.length_map] at h
  exact h.mono fun e w' ⟨v, h1, h2, h3⟩ => ⟨v, h1, OwS.of_kd h2, h3⟩
theorem FGet_calls (w : World) (A : Option Addr) (c : Nat) (fs : List (BL × BL)) (hf : FsOk fs) (hr : FsAt w A fs) (hc : fs.length ≤ c) (nm : BL) :
    Calls Tryd.prog 30 #[.slice A fs.length c, .string (bs nm)] w fun e w' => e = .returned (.tuple #[.string (bs ((getL fs nm).getD [])), .bool (getL fs nm).isSome]) ∧ Below w.heap.size w w' := by
  have h := field_Get.calls (fs.length + 1048580) A c (fs.map fS) (bs nm) _ _ w (by rw [List.length_map]; exact hr) (by rw [List.length_map]; exact hc) (p_Get fs hf nm)
  rw [List.length_map] at h
  exact h

/-- one field, laid -/
theorem FsAt.one {w : World} {g : Nat} {fr : Nat × Nat} {a b : BL} (h : w.heap[g]? = some (.cells #[.string (bs a), .string (bs b)] 59 fr)) : FsAt w (some ⟨g, 0, none⟩) [(a, b)] := by
  refine ⟨rfl, by simp, fun _ => ⟨⟨g, 0, none⟩, rfl, fun j p hj => ?_⟩⟩
  match j, hj with
  | 0, hj =>
    cases hj
    refine ⟨_, rfl, k59_mk w (fS (a, b)), fun i u hu => ?_⟩
    rw [Addr.add_lit]
    simp only [World.cell?, h]
    match i, hu with
    | 0, hu => cases hu; rfl
    | 1, hu => cases hu; rfl

/-- the variables that the errors of numbers are read from -/
structure Ge (w : World) : Prop where
  e1 : ErrVar 0 w
  e2 : ErrVar 1 w
theorem Ge.below {w w' : World} (h : Ge w) (hb : Below w.heap.size w w') : Ge w' := ⟨GV_below h.e1 hb, GV_below h.e2 hb⟩

def frV (q : Int × Int × Int) : Value := .tuple #[.int .i64 q.1, .int .i64 q.2.1, .int .i64 q.2.2]
abbrev headV (m o : ByteArray) (st : Int) (A : Option Addr) (n c : Nat) : Value := .agg #[.string m, .string o, .int .i64 st, .slice A n c]

set_option maxHeartbeats 2000000 in
set_option maxRecDepth 100000 in
theorem Of_none (w : World) (m o : ByteArray) (st : Int) (A : Option Addr) (n c : Nat) (asked : BL) (h : noBody st asked) :
    Calls Tryd.prog 12 #[headV m o st A n c, .string (bs asked)] w fun e w' => e = .returned (frV (4, 0, 0)) ∧ Below w.heap.size w w' := by
  have hb : ∀ o, Below w.heap.size w (w.alloc o) := fun o => (Below.refl _ w).alloc (Nat.le_refl _) o
  by_cases h1 : asked = HEADs
  · have e0 : (bs asked).toList = [72, 69, 65, 68] := by rw [bs_toList, h1]; rfl
    clear h h1
    go_enter Tryd.func12, Tryd.ntmps12
    go_wp2
    go_ret3
    exact ⟨rfl, hb _⟩
  · have e0 : ¬ (bs asked).toList = [72, 69, 65, 68] := by rw [bs_toList]; exact h1
    have e1 : ((bs asked).toList == [72, 69, 65, 68]) = false := beq_eq_false_iff_ne.2 e0
    by_cases h2 : 100 ≤ st ∧ st ≤ 199
    · have t1 : decide ((100 : Int) ≤ st) = true := decide_eq_true h2.1
      have t2 : decide (st ≤ (199 : Int)) = true := decide_eq_true h2.2
      clear h h1 h2
      go_enter Tryd.func12, Tryd.ntmps12
      go_wp2
      go_ret3
      exact ⟨rfl, hb _⟩
    · by_cases h3 : st = 204
      · subst h3
        clear h h1 h2
        go_enter Tryd.func12, Tryd.ntmps12
        go_wp2
        go_ret3
        exact ⟨rfl, hb _⟩
      · have h4 : st = 304 := by
          rcases h with h | h | h | h
          · exact absurd h h1
          · exact absurd h h2
          · exact absurd h h3
          · exact h
        subst h4
        clear h h1 h2 h3
        go_enter Tryd.func12, Tryd.ntmps12
        go_wp2
        go_ret3
        exact ⟨rfl, hb _⟩

theorem OwS.form {w : World} {B : Nat} {v : Value} {l : List BL} (h : OwS w B v l) : ∃ a c, v = .slice a l.length c := by
  rcases h.2 with ⟨rfl, h0⟩ | ⟨g, cap, cur, rfl, _⟩
  · exact ⟨_, _, by rw [h0]⟩
  · exact ⟨_, _, rfl⟩
theorem OwS.below {w w' : World} {B : Nat} {v : Value} {l : List BL} (h : OwS w B v l) (hb : Below w.heap.size w w') : OwS w' B v l := h.keep fun k hk => hb.block k (h.ge k hk).2
theorem OwS.first {w : World} {B : Nat} {v : Value} {s : BL} {l : List BL} (h : OwS w B v (s :: l)) : ∃ g c, v = .slice (some ⟨g, 0, none⟩) (l.length + 1) c ∧ w.cell? ⟨g, 0, none⟩ = some (.string (bs s)) ∧ g < w.heap.size := by
  have hr := h.rs
  obtain ⟨g, c, h1, h2⟩ := hr.cell (k := 0) (x := s) rfl
  exact ⟨g, c, h1, h2, World.block_lt_of_cell? w _ h2⟩

def resF (it cl : List BL) : Int × Int × Int := match it with
  | [] => if cl = [] then (3, 0, 0) else match sizeL (allItems cl) with
    | none => (0, 0, 2)
    | some n => (1, n, 0)
  | [c] => if alikeL c CHs = true ∧ cl = [] then (2, 0, 0) else (0, 0, 2)
  | _ :: _ :: _ => (0, 0, 2)
theorem Get1_calls (W : World) (g : Nat) (c : BL) (fr : Nat × Nat) (hc : c.length ≤ 1048576) (h : W.heap[g]? = some (.cells #[.string (bs c), .string ⟨#[]⟩] 59 fr)) :
    Calls Tryd.prog 30 #[.slice (some ⟨g, 0, none⟩) 1 1, .string ⟨#[99, 104, 117, 110, 107, 101, 100]⟩] W fun e w' => ∃ s, e = .returned (.tuple #[.string s, .bool (alikeL c CHs)]) ∧ Below W.heap.size W w' := by
  have h1 := FGet_calls W (some ⟨g, 0, none⟩) 1 [(c, [])] ⟨by simp, by rintro x hx; simp at hx; subst hx; exact ⟨hc, by simp⟩⟩ (FsAt.one (b := []) h) (by simp) CHs
  have e1 : (getL [(c, [])] CHs).isSome = alikeL c CHs := by
    unfold getL
    cases hh : alikeL c CHs <;> simp [List.find?, hh]
  rw [e1] at h1
  exact h1.mono fun e w' ⟨k1, k2⟩ => ⟨_, k1, k2⟩

set_option maxHeartbeats 8000000 in
set_option maxRecDepth 100000 in
theorem Of_some (w : World) (hG : Ge w) (m o : ByteArray) (st : Int) (A : Option Addr) (c : Nat) (fs : List (BL × BL)) (hf : FsOk fs) (hr : FsAt w A fs) (hc : fs.length ≤ c) (asked : BL) (h : ¬ noBody st asked) (q : Bool) (t1 : decide ((100 : Int) ≤ st) = q) (t2 : q = true → decide (st ≤ (199 : Int)) = false) :
    Calls Tryd.prog 12 #[headV m o st A fs.length c, .string (bs asked)] w fun e w' => e = .returned (frV (frameOf st fs asked)) ∧ Below w.heap.size w w' := by
  have e0 : ¬ (bs asked).toList = [72, 69, 65, 68] := by rw [bs_toList]; exact fun h' => h (.inl h')
  have e1 : ((bs asked).toList == [72, 69, 65, 68]) = false := beq_eq_false_iff_ne.2 e0
  have t3 : (st == 204) = false := beq_eq_false_iff_ne.2 (fun h' => h (.inr (.inr (.inl h'))))
  have t4 : (st == 304) = false := beq_eq_false_iff_ne.2 (fun h' => h (.inr (.inr (.inr h'))))
  have hfo : frameOf st fs asked = resF (allItems (ofL fs TEs)) (ofL fs CLs) := by unfold frameOf; rw [if_neg h]; rfl
  rw [hfo]
  clear hfo h
  have HF := Lib.hid hf
  have HFA := Lib.hid hr
  have HC := Lib.hid hc
  have HG := Lib.hid hG
  have h1 := fun W (hb : Below w.heap.size w W) => FOf_calls W A c fs hf (hr.below hb) hc CLs
  have h2 := fun W (hb : Below w.heap.size w W) => FOf_calls W A c fs hf (hr.below hb) hc TEs
  rw [show bs CLs = ⟨#[67, 111, 110, 116, 101, 110, 116, 45, 76, 101, 110, 103, 116, 104]⟩ from rfl] at h1
  rw [show bs TEs = ⟨#[84, 114, 97, 110, 115, 102, 101, 114, 45, 69, 110, 99, 111, 100, 105, 110, 103]⟩ from rfl] at h2
  have H1 := Lib.hid h1
  have H2 := Lib.hid h2
  have okC := ofL_ok hf CLs
  have okT := ofL_ok hf TEs
  have HOC : Hid ((ofL fs CLs).length ≤ 1048576 ∧ ∀ v ∈ ofL fs CLs, v.length ≤ 1048576) := Lib.hid ⟨Nat.le_trans okC.1 hf.1, okC.2⟩
  have HOT : Hid ((ofL fs TEs).length ≤ 1048576 ∧ ∀ v ∈ ofL fs TEs, v.length ≤ 1048576) := Lib.hid ⟨Nat.le_trans okT.1 hf.1, okT.2⟩
  have HMT := Lib.hid (fun x hx => (allItems_mem hf TEs (x := x) hx).2)
  have HMC := Lib.hid (fun x hx => (allItems_mem hf CLs (x := x) hx).2)
  obtain ⟨TE, hTE⟩ : ∃ TE, ofL fs TEs = TE := ⟨_, rfl⟩
  obtain ⟨CL, hCL⟩ : ∃ CL, ofL fs CLs = CL := ⟨_, rfl⟩
  rw [hTE] at H2 HOT HMT ⊢
  rw [hCL] at H1 HOC HMC ⊢
  clear h1 h2 hf hr hc hG hTE hCL okC okT
  go_enter Tryd.func12, Tryd.ntmps12
  cases q
  all_goals (try (have t2' := t2 rfl; clear t2))
  all_goals (try clear t2)
  all_goals
    go_wp2_with fail
    refine (H1.out _ ((Below.refl _ w).alloc (Nat.le_refl _) _)).mono ?_
    rintro e w1 ⟨v1, rfl, ho1, hb1⟩
    have c1 : w1.cell? ⟨w.heap.size, 3, none⟩ = some (.slice A fs.length c) := (hb1.cell (p := ⟨w.heap.size, 3, none⟩) (by simp)).trans (by simp)
    have HB1 := Lib.hid (((Below.refl _ w).alloc (Nat.le_refl _) _).trans (hb1.mono (by simp)))
    have HO1 := Lib.hid ho1
    have hlt1 : w.heap.size < w1.heap.size := World.block_lt_of_cell? w1 _ c1
    clear hb1 ho1
    go_wp2_with fail
    refine (H2.out _ HB1.out).mono ?_
    rintro e w2 ⟨v2, rfl, ho2, hb2⟩
    have HB2 := Lib.hid (HB1.out.trans (hb2.mono HB1.out.size))
    have HO2 := Lib.hid ho2
    have HO1 := Lib.hid (HO1.out.below hb2)
    clear hb2 ho2 c1 hlt1
    go_wp2_with fail
    refine (Items_calls v2 (by obtain ⟨a, c, h⟩ := HO2.out.form; exact ⟨a, _, c, h⟩) _).mono ?_
    rintro e w3 ⟨rfl, rfl⟩
    go_wp2_with fail
    refine (CollectItems_calls _ w2.heap.size v2 TE HOT.out.1 HOT.out.2 (heap_alloc_new w2 _) (by have := HO2.out.rs; rcases this with h | ⟨gg, cap, cur, fz, k1, k2, k3, k4, k5⟩; exact .inl h; exact .inr ⟨gg, cap, cur, fz, k1, by simp; omega, k3, (Below.heap_alloc w2 _ _ k2).trans k4, k5⟩)).mono ?_
    rintro e w4 ⟨v4, rfl, ho4, hb4⟩
    have HB4 : Hid (Below w.heap.size w w4) := Lib.hid (HB2.out.trans ((((Below.refl _ w2).alloc (Nat.le_refl _) _).trans (hb4.mono (by simp))).mono HB2.out.size))
    have HO1 := Lib.hid ((HO1.out.below ((Below.refl _ w2).alloc (Nat.le_refl _) _)).below hb4)
    have HO4 := Lib.hid ho4
    clear hb4 ho4 HO2 HB2 HB1
    obtain ⟨a1, c1, hv1⟩ := HO1.out.form
    subst hv1
    obtain ⟨N1, hN1⟩ : ∃ N, CL.length = N := ⟨_, rfl⟩
    have HN1 := Lib.hid hN1
    rw [hN1]
    have HQ2 : Hid (¬ 0 < N1 ↔ CL = []) := Lib.hid (by rw [← List.length_eq_zero_iff]; omega)
    clear hN1
    rcases hIT : allItems TE with _ | ⟨s, l⟩
    · have HI := Lib.hid hIT
      rw [hIT] at HO4
      clear hIT
      obtain ⟨a4, c4, hv4⟩ := HO4.out.form
      simp only [List.length_nil] at hv4
      subst hv4
      by_cases hq2 : 0 < N1
      · have HNE : Hid (¬ CL = []) := Lib.hid (fun h => HQ2.out.2 h hq2)
        go_wp2_with fail
        refine (Items_calls (.slice a1 N1 c1) ⟨_, _, _, rfl⟩ _).mono ?_
        rintro e w5 ⟨rfl, rfl⟩
        go_wp2_with fail
        have hrs1 := HO1.out.rs
        rw [HN1.out] at hrs1
        refine (CollectItems_calls _ w4.heap.size _ CL HOC.out.1 HOC.out.2 (heap_alloc_new w4 _) (by rcases hrs1 with h | ⟨gg, cap, cur, fz, k1, k2, k3, k4, k5⟩; exact .inl h; exact .inr ⟨gg, cap, cur, fz, k1, by simp; omega, k3, (Below.heap_alloc w4 _ _ k2).trans k4, k5⟩)).mono ?_
        rintro e w6 ⟨v6, rfl, ho6, hb6⟩
        have HB6 : Hid (Below w.heap.size w w6) := Lib.hid (HB4.out.trans ((((Below.refl _ w4).alloc (Nat.le_refl _) _).trans (hb6.mono (by simp))).mono HB4.out.size))
        have HO6 := Lib.hid ho6
        clear hb6 ho6 hrs1
        go_wp2_with fail
        refine (size_calls w6 v6 _ HO6.out.rs (allItems_lim CL HOC.out.1 HOC.out.2) (fun x hx => HMC.out x hx) (HG.out.below HB6.out).e1 (HG.out.below HB6.out).e2).mono ?_
        rintro e w7 ⟨rfl, hb7⟩
        have HB7 : Hid (Below w.heap.size w w7) := Lib.hid (HB6.out.trans (hb7.mono HB6.out.size))
        clear hb7
        rcases hS : sizeL (allItems CL) with _ | n
        · have HS := Lib.hid hS
          clear hS
          simp only [sizeV]
          go_wp2_with fail
          go_ret3
          exact ⟨by rw [HI.out]; simp only [resF, if_neg HNE.out, HS.out]; rfl, HB7.out⟩
        · have HS := Lib.hid hS
          clear hS
          simp only [sizeV]
          go_wp2_with fail
          go_ret3
          exact ⟨by rw [HI.out]; simp only [resF, if_neg HNE.out, HS.out]; rfl, HB7.out⟩
      · go_wp2_with fail
        go_ret3
        exact ⟨by rw [HI.out, HQ2.out.1 hq2]; rfl, HB4.out⟩
    · have HI := Lib.hid hIT
      rw [hIT] at HO4
      obtain ⟨g, c4, hv4, hc4, hg4⟩ := HO4.out.first
      have hsl : s.length ≤ 1048576 := HMT.out s (by rw [hIT]; exact List.mem_cons_self ..)
      clear hIT
      subst hv4
      obtain ⟨N4, hN4⟩ : ∃ N, l.length + 1 = N := ⟨_, rfl⟩
      rw [hN4]
      have HN4 := Lib.hid hN4
      have hpos : 0 < N4 := by omega
      have HQ1 : Hid (¬ 1 < N4 ↔ l = []) := Lib.hid (by rw [← List.length_eq_zero_iff]; omega)
      clear hN4
      go_wp2_with fail
      refine (Get1_calls _ w4.heap.size s (0, 0) hsl (heap_alloc_new w4 _)).mono ?_
      rintro e w5 ⟨s5, rfl, hb5⟩
      have HB5 : Hid (Below w.heap.size w w5) := Lib.hid (HB4.out.trans ((((Below.refl _ w4).alloc (Nat.le_refl _) _).trans (hb5.mono (by simp))).mono HB4.out.size))
      clear hb5 hc4 hg4
      by_cases hq1 : 1 < N4
      · have HL : Hid (¬ l = []) := Lib.hid (fun h => HQ1.out.2 h hq1)
        go_wp2_with fail
        go_ret3
        refine ⟨?_, HB5.out⟩
        rw [HI.out]
        rcases l with _ | ⟨d, l⟩
        · exact absurd rfl HL.out
        · rfl
      · have HL : Hid (l = []) := Lib.hid (HQ1.out.1 hq1)
        cases hal : alikeL s CHs
        · have HA := Lib.hid hal
          clear hal
          go_wp2_with fail
          go_ret3
          refine ⟨?_, HB5.out⟩
          rw [HI.out, HL.out]
          simp only [resF, HA.out]
          rfl
        · have HA := Lib.hid hal
          clear hal
          by_cases hq2 : 0 < N1
          · have HNE : Hid (¬ CL = []) := Lib.hid (fun h => HQ2.out.2 h hq2)
            go_wp2_with fail
            go_ret3
            refine ⟨?_, HB5.out⟩
            rw [HI.out, HL.out]
            simp only [resF, HA.out, HNE.out, and_false, if_false]
            rfl
          · go_wp2_with fail
            go_ret3
            refine ⟨?_, HB5.out⟩
            rw [HI.out, HL.out, HQ2.out.1 hq2]
            simp only [resF, HA.out]
            rfl
end Go.Proofs.YteneioapchhehaaDoor
