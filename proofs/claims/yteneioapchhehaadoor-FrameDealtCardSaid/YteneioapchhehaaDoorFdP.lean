/- Plain laws of lists of values: where an item ends; the items; numbers of digits. -/

namespace Go.Proofs.YteneioapchhehaaDoor

abbrev BL := List UInt8

/-- a letter as a small one -/
def lowB (c : UInt8) : UInt8 := if 65 ≤ c ∧ c ≤ 90 then c + 32 else c
def lowL (l : BL) : BL := l.map lowB
def alikeL (a b : BL) : Bool := lowL a == lowL b
def isBl (c : UInt8) : Bool := c == 32 || c == 9
def dropBl (l : BL) : BL := l.dropWhile isBl
/-- without blanks and tabs at both ends -/
def trimL (l : BL) : BL := (dropBl (dropBl l).reverse).reverse

/-- where the first comma stands that is in no quoted text; the length, if there is none -/
def commaL : Bool → BL → Nat
  | _, [] => 0
  | q, c :: l =>
    if c = 34 then 1 + commaL (!q) l
    else if q = true ∧ c = 92 then (match l with | [] => 1 | _ :: l' => 2 + commaL q l')
    else if q = false ∧ c = 44 then 0
    else 1 + commaL q l

theorem commaL_le : ∀ (q : Bool) (l : BL), commaL q l ≤ l.length
  | _, [] => by simp [commaL]
  | q, [c] => by
    unfold commaL
    split
    · have := commaL_le (!q) []; simp at this ⊢; omega
    · split
      · simp
      · split
        · simp
        · have := commaL_le q []; simp at this ⊢; omega
  | q, c :: d :: l => by
    unfold commaL
    split
    · have := commaL_le (!q) (d :: l); simp at this ⊢; omega
    · split
      · have := commaL_le q l; simp; omega
      · split
        · simp
        · have := commaL_le q (d :: l); simp at this ⊢; omega

/-- the program's items of one value -/
def itemsP : Nat → BL → List BL
  | 0, _ => []
  | f + 1, s => if s = [] then [] else
    (if trimL (s.take (commaL false s)) = [] then [] else [trimL (s.take (commaL false s))]) ++ itemsP f (s.drop (commaL false s + 1))

/-- the reference's: byte by byte -/
def runI : BL → BL → Bool → Bool → List BL
  | [], item, _, _ => [trimL item]
  | c :: l, item, q, nx =>
    if c = 44 ∧ q = false then trimL item :: runI l [] q nx
    else runI l (item ++ [c]) (if nx = true then q else if q = true ∧ c = 92 then q else if c = 34 then !q else q) (if nx = true then false else decide (q = true ∧ c = 92))

theorem runI_comma : ∀ (s item : BL) (q : Bool), runI s item q false = if commaL q s < s.length then trimL (item ++ s.take (commaL q s)) :: runI (s.drop (commaL q s + 1)) [] false false else [trimL (item ++ s)]
  | [], item, q => by simp [runI, commaL]
  | [c], item, q => by
    unfold runI commaL
    by_cases h34 : c = 34
    · subst h34
      cases q <;> simp [runI, commaL]
    · by_cases h92 : q = true ∧ c = 92
      · obtain ⟨rfl, rfl⟩ := h92
        simp [runI]
      · by_cases h44 : q = false ∧ c = 44
        · obtain ⟨rfl, rfl⟩ := h44
          simp [runI]
        · have h1 : ¬ (c = 44 ∧ q = false) := fun h => h44 ⟨h.2, h.1⟩
          rw [if_neg h1, if_neg h34, if_neg h92, if_neg h44]
          simp [runI, commaL, h92]
  | c :: d :: l, item, q => by
    rw [runI, commaL]
    by_cases h34 : c = 34
    · subst h34
      have h1 : ¬ ((34 : UInt8) = 44 ∧ q = false) := by decide +revert
      have h2 : ¬ (q = true ∧ (34 : UInt8) = 92) := by decide +revert
      rw [if_neg h1, if_pos rfl, if_neg h2, if_pos rfl]
      simp only [Bool.false_eq_true, if_false, decide_eq_false h2]
      rw [runI_comma (d :: l) (item ++ [34]) (!q)]
      simp only [List.length_cons, show 1 + commaL (!q) (d :: l) = commaL (!q) (d :: l) + 1 from Nat.add_comm _ _, List.take_succ_cons, List.drop_succ_cons, List.append_assoc, List.singleton_append]
      by_cases hlt : commaL (!q) (d :: l) < l.length + 1
      · rw [if_pos hlt, if_pos (by omega)]
      · rw [if_neg hlt, if_neg (by omega)]
    · by_cases h92 : q = true ∧ c = 92
      · obtain ⟨rfl, rfl⟩ := h92
        simp only [show ¬ ((92 : UInt8) = 44 ∧ true = false) from by decide, show ¬ ((92 : UInt8) = 34) from by decide, if_false, true_and, if_true, Bool.false_eq_true, decide_true]
        rw [runI]
        have h44 : ¬ (d = 44 ∧ true = false) := (fun h => by cases h.2)
        rw [if_neg h44]
        simp only [if_true]
        rw [runI_comma l (item ++ [92] ++ [d]) true]
        simp only [List.length_cons, show 2 + commaL true l = commaL true l + 1 + 1 from by omega, List.take_succ_cons, List.drop_succ_cons, List.append_assoc, List.cons_append, List.nil_append]
        by_cases hlt : commaL true l < l.length
        · rw [if_pos hlt, if_pos (by omega)]
        · rw [if_neg hlt, if_neg (by omega)]
      · by_cases h44 : q = false ∧ c = 44
        · obtain ⟨rfl, rfl⟩ := h44
          simp
        · have h1 : ¬ (c = 44 ∧ q = false) := fun h => h44 ⟨h.2, h.1⟩
          rw [if_neg h1, if_neg h34, if_neg h92, if_neg h44, if_neg h92, if_neg h34]
          simp only [Bool.false_eq_true, if_false, decide_eq_false h92]
          rw [runI_comma (d :: l) (item ++ [c]) q]
          simp only [List.length_cons, show 1 + commaL q (d :: l) = commaL q (d :: l) + 1 from Nat.add_comm _ _, List.take_succ_cons, List.drop_succ_cons, List.append_assoc, List.singleton_append]
          by_cases hlt : commaL q (d :: l) < l.length + 1
          · rw [if_pos hlt, if_pos (by omega)]
          · rw [if_neg hlt, if_neg (by omega)]

def itemsR (s : BL) : List BL := (runI s [] false false).filter (· ≠ [])

theorem itemsP_eq : ∀ (f : Nat) (s : BL), s.length ≤ f → itemsP f s = itemsR s
  | 0, s, h => by
    have : s = [] := List.eq_nil_of_length_eq_zero (by omega)
    subst this
    simp [itemsP, itemsR, runI, trimL, dropBl]
  | f + 1, s, h => by
    by_cases hs : s = []
    · subst hs
      simp [itemsP, itemsR, runI, trimL, dropBl]
    · rw [itemsP, if_neg hs, itemsR, runI_comma s [] false]
      by_cases hlt : commaL false s < s.length
      · rw [if_pos hlt, itemsP_eq f _ (by rw [List.length_drop]; omega), itemsR, List.filter_cons]
        simp only [List.nil_append]
        by_cases ht : trimL (s.take (commaL false s)) = []
        · simp [ht]
        · simp [ht]
      · have h1 := commaL_le false s
        have h2 : commaL false s = s.length := by omega
        rw [if_neg hlt, h2, List.take_length, itemsP_eq f _ (by rw [List.length_drop]; omega), List.drop_eq_nil_of_le (by omega)]
        simp only [List.nil_append]
        have h0 : itemsR [] = [] := by simp [itemsR, runI, trimL, dropBl]
        by_cases ht : trimL s = []
        · simp [ht, h0]
        · simp [ht, h0]
end Go.Proofs.YteneioapchhehaaDoor
