/- The reference's Low: a text, its letters small. -/
import Derived.Test.YteneioapchhehaaDoorMa
import Derived.Test.YteneioapchhehaaDoorFdP
import Derived.Lib.ConvBytes
import Derived.Handy
namespace Go.Proofs.YteneioapchhehaaDoor
open Go.RowKit

def lowS (s : ByteArray) : ByteArray := ⟨(lowL s.data.toList).toArray⟩

def LowRel (w : World) (s : ByteArray) (_sz k : Nat) (wr : World) : Prop :=
  ∃ cur fz, k ≤ s.size ∧ wr.heap[w.heap.size]? = some (.cells cur 5 fz) ∧ s.size ≤ fz.1 ∧ (∀ j b, s.data.toList[j]? = some b → cur[j]? = some (bv (if j < k then lowB b else b))) ∧ Below w.heap.size w wr

theorem lowB_val (b : UInt8) (h1 : 65 ≤ (b.toNat : Int)) (h2 : (b.toNat : Int) ≤ 90) : Value.int .u8 ((b.toNat : Int) + 32) = bv (lowB b) := by
  have h3 : (65 : UInt8) ≤ b ∧ b ≤ 90 := ⟨by rw [UInt8.le_iff_toNat_le]; have : (65 : UInt8).toNat = 65 := rfl; omega, by rw [UInt8.le_iff_toNat_le]; have : (90 : UInt8).toNat = 90 := rfl; omega⟩
  unfold lowB bv
  rw [if_pos h3, UInt8.toNat_add]
  have : (32 : UInt8).toNat = 32 := rfl
  have e : (b.toNat + (32 : UInt8).toNat) % 2 ^ 8 = b.toNat + 32 := by omega
  rw [e]; rfl
theorem lowB_same (b : UInt8) (h : ¬ (65 ≤ (b.toNat : Int) ∧ (b.toNat : Int) ≤ 90)) : lowB b = b := by
  unfold lowB
  rw [if_neg]
  rintro ⟨h1, h2⟩
  rw [UInt8.le_iff_toNat_le] at h1 h2
  have e1 : (65 : UInt8).toNat = 65 := rfl
  have e2 : (90 : UInt8).toNat = 90 := rfl
  omega

set_option maxHeartbeats 1000000 in
set_option maxRecDepth 100000 in
theorem Low_calls (s : ByteArray) (hs : s.size ≤ 140737488355328) (w : World) : Calls Tryd.prog 56 #[.string s] w fun e w' => e = .returned (.string (lowS s)) ∧ Below w.heap.size w w' := by
  have hcv := Lib.run_convert_string_bytes (P := Tryd.prog) w 9 43 5 s Tryd.underlying9 Tryd.underlying43 Tryd.underlying5
  have hnew := Lib.bytesWorld_at_new w 5 s
  have hold := Lib.bytesWorld_at_old w 5 s
  have hsz := Lib.bytesWorld_size w 5 s
  obtain ⟨C, hC⟩ : ∃ C, grownCap w s.size 0 5 = C := ⟨_, rfl⟩
  obtain ⟨W0, hW0⟩ : ∃ W0, Lib.bytesWorld w 5 s = W0 := ⟨_, rfl⟩
  have hb0 : Below w.heap.size w W0 := ⟨by rw [← hW0]; rfl, by rw [← hW0]; rfl, by rw [← hW0]; rfl, by rw [← hW0, hsz]; omega, fun k hk => by rw [← hW0]; exact hold k hk⟩
  have H0 : Hid (LowRel w s 0 0 W0) := Lib.hid (by
    refine ⟨_, _, Nat.zero_le _, by rw [← hW0]; exact hnew, ?_, fun j b hj => ?_, hb0⟩
    · simp only [Lib.bytesCells, Array.size_append, Array.size_map]
      have : s.data.size = s.size := rfl
      omega
    · have hjl := (List.getElem?_eq_some_iff.1 hj).1
      rw [if_neg (by omega)]
      have h1 : j < (s.data.map fun b => Value.int .u8 b.toNat).size := by simpa using hjl
      simp only [Lib.bytesCells]
      rw [Array.getElem?_append_left (by simpa using hjl)]
      rw [Array.getElem?_map]
      have : s.data[j]? = some b := by simpa using hj
      rw [this]; rfl)
  rw [hC, hW0] at hcv
  have HS := Lib.hid hs
  clear hnew hold hsz hb0 hC hW0
  have hdl : s.data.toList.length = s.size := rfl
  go_enter Tryd.func56, Tryd.ntmps56
  go_wp2_with fail
  go_loopw [9] (fun v9 wr => ∃ k : Nat, v9 = .int .i64 k ∧ LowRel w s 0 k wr) (fun v9 _ => s.size - (intOf v9).toNat)
  case atStart => exact ⟨0, rfl, H0.out⟩
  case round =>
    obtain ⟨k, rfl, cur, fz, hk, hb, hfz, hc, hbl⟩ := hrel
    clear hcv H0
    by_cases hlt : k < s.size
    · obtain ⟨b, hbk⟩ : ∃ b, s.data.toList[k]? = some b := ⟨_, List.getElem?_eq_getElem (by omega)⟩
      have hcell : wr.cell? ⟨w.heap.size, k, none⟩ = some (.int .u8 (b.toNat : Int)) := by
        have := hc k b hbk
        rw [if_neg (Nat.lt_irrefl _)] at this
        simp only [World.cell?, hb]
        exact this
      have hfro : wr.frozen? ⟨w.heap.size, k, none⟩ = false := by
        obtain ⟨lo, hi⟩ := fz
        simp only at hfz
        simp only [World.frozen?, hb, Bool.and_eq_false_iff, decide_eq_false_iff_not]
        omega
      have hb1 := b.toNat_lt
      have HK := Lib.hid hk
      have HB := Lib.hid hb
      have HFZ := Lib.hid hfz
      have HC := Lib.hid hc
      have HBL := Lib.hid hbl
      have HBK := Lib.hid hbk
      have HDL := Lib.hid hdl
      have HLT := Lib.hid hlt
      have HK2 : Hid (wrap64 ((k : Int) + 1) = ((k + 1 : Nat) : Int)) := Lib.hid (by rw [IntWalk.wrap64_in _ (by have := HS.out; omega)]; rfl)
      have hklim : k ≤ 140737488355328 := by have := HS.out; omega
      clear hk hb hfz hc hbl hbk hdl
      have hnext : ∀ v : Value, Hid (v = bv (lowB b) → LowRel w s 0 (k + 1) (wr.setCell ⟨w.heap.size, k, none⟩ v)) := fun v => Lib.hid (fun hv => by
        refine ⟨cur.setIfInBounds k v, fz, HLT.out, ?_, HFZ.out, fun j b' hj => ?_, HBL.out.setCell (Nat.le_refl _) _⟩
        · rw [setCell_eq_setRow wr w.heap.size k cur _ _ v HB.out]
          exact setRow_heap wr w.heap.size cur _ _ _ HB.out
        · rw [Array.getElem?_setIfInBounds]
          by_cases hjk : j = k
          · subst hjk
            rw [HBK.out] at hj
            cases hj
            have hlt2 : j < cur.size := by
              have := HC.out j b HBK.out
              exact (Array.getElem?_eq_some_iff.1 this).1
            rw [if_pos rfl, if_pos hlt2, if_pos (Nat.lt_succ_self _), hv]
          · rw [if_neg (fun e => hjk e.symm), HC.out j b' hj]
            by_cases h2 : j < k
            · rw [if_pos h2, if_pos (by omega)]
            · rw [if_neg h2, if_neg (by omega)])
      have hsame : lowB b = b → LowRel w s 0 (k + 1) wr := fun hv => by
        refine ⟨cur, fz, HLT.out, HB.out, HFZ.out, fun j b' hj => ?_, HBL.out⟩
        rw [HC.out j b' hj]
        by_cases hjk : j = k
        · subst hjk
          rw [HBK.out] at hj
          cases hj
          rw [if_neg (Nat.lt_irrefl _), if_pos (Nat.lt_succ_self _), hv]
        · by_cases h2 : j < k
          · rw [if_pos h2, if_pos (by omega)]
          · rw [if_neg h2, if_neg (by omega)]
      by_cases h1 : 65 ≤ (b.toNat : Int)
      · by_cases h2 : (b.toNat : Int) ≤ 90
        · have HN := Lib.hid ((hnext (.int .u8 ((b.toNat : Int) + 32))).out (lowB_val b h1 h2))
          clear hnext hsame
          go_wp2_with fail
          go_roundw
          case rel => exact ⟨k + 1, by first | rfl | rw [HK2.out], HN.out⟩
          case measure => have := HLT.out; simp [intOf]; omega
        · have HN := Lib.hid (hsame (lowB_same b (fun h => h2 h.2)))
          clear hnext hsame
          go_wp2_with fail
          go_roundw
          case rel => exact ⟨k + 1, by first | rfl | rw [HK2.out], HN.out⟩
          case measure => have := HLT.out; simp [intOf]; omega
      · have HN := Lib.hid (hsame (lowB_same b (fun h => h1 h.1)))
        clear hnext hsame
        go_wp2_with fail
        go_roundw
        case rel => exact ⟨k + 1, by first | rfl | rw [HK2.out], HN.out⟩
        case measure => have := HLT.out; simp [intOf]; omega
    · obtain rfl : k = s.size := by omega
      have hbs : Bs wr (some ⟨w.heap.size, 0, none⟩) (lowL s.data.toList) := Bs.of_plain (fun j x hx => by
        have hjl := (List.getElem?_eq_some_iff.1 hx).1
        unfold lowL at hx hjl
        rw [List.length_map] at hjl
        rw [List.getElem?_map, List.getElem?_eq_getElem hjl] at hx
        cases hx
        have := hc j _ (List.getElem?_eq_getElem hjl)
        rw [if_pos (by omega)] at this
        simp only [World.cell?, hb, Nat.zero_add]
        exact this)
      have rs := run_str hbs (n := s.size) (by unfold lowL; rw [List.length_map]; exact hdl) C
      have HBL := Lib.hid hbl
      clear hk hb hfz hc hbl hbs
      go_wp2_with fail
      go_ret
      exact ⟨rfl, HBL.out⟩
end Go.Proofs.YteneioapchhehaaDoor
namespace Go.Proofs.YteneioapchhehaaDoor.Ext
open Go.RowKit
/-- Low as the printed texts take it -/
def mandolineref07_Low.f (a0 : ByteArray) : Option ByteArray := if a0.size ≤ 140737488355328 then some (lowS a0) else none
theorem mandolineref07_Low.calls (a0 r : ByteArray) (w : World) (h : mandolineref07_Low.f a0 = some r) : Calls Tryd.prog 56 #[.string a0] w fun e w' => e = .returned (.string r) ∧ Below w.heap.size w w' := by
  unfold mandolineref07_Low.f at h
  split at h
  · rename_i hs
    cases h
    exact Low_calls a0 hs w
  · cases h
end Go.Proofs.YteneioapchhehaaDoor.Ext
