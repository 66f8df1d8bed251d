/- Slices of bytes that came in; how many pieces are played. -/
import Derived.Test.YteneioapchhehaaDoorFrQ
import Derived.Test.YteneioapchhehaaDoorMc
namespace Go.Proofs.YteneioapchhehaaDoor
open Go.RowKit

theorem BssF.below {w w' : World} {ao : Option Addr} {ls : List (Option Addr × List UInt8 × Nat)} (h : Bss w ao ls) (hb : Below w.heap.size w w') : Bss w' ao ls :=
  ⟨h.1, fun ad had j x hj => by
    obtain ⟨h1, h2, h3⟩ := h.2 ad had j x hj
    refine ⟨?_, h2.below hb, h3⟩
    rw [hb.cell (World.block_lt_of_cell? w _ h1)]
    exact h1⟩

/-- one slice of those that came in -/
theorem BssF.nth {w : World} {ao : Option Addr} {ls : List (Option Addr × List UInt8 × Nat)} (h : Bss w ao ls) {k : Nat} (hk : k < ls.length) :
    ∃ b off bo l c, ao = some ⟨b, off, none⟩ ∧ ls[k]? = some (bo, l, c) ∧ w.cell? ⟨b, off + k, none⟩ = some (.slice bo l.length c) ∧ Bs w bo l ∧ l.length ≤ c ∧ (bo = none → c = 0) ∧ l.length ≤ reachBytes := by
  obtain ⟨ad, had⟩ : ∃ ad, ao = some ad := by
    cases ao with
    | none => have := h.1 rfl; rw [this] at hk; simp at hk
    | some ad => exact ⟨ad, rfl⟩
  subst had
  obtain ⟨⟨bo, b, cb⟩, hx⟩ : ∃ x, ls[k]? = some x := ⟨_, List.getElem?_eq_getElem hk⟩
  obtain ⟨hcell, hbs, hbc, hbn, hbm⟩ := h.2 ad rfl k _ hx
  obtain ⟨bb, off, sp⟩ := ad
  have hsp : sp = none := by
    have := World.cell?_spot (h.2 _ rfl 0 _ (List.getElem?_eq_getElem (by omega))).1
    simpa [Addr.add] using this
  subst hsp
  rw [Addr.add_lit] at hcell
  exact ⟨bb, off, bo, b, cb, rfl, hx, hcell, hbs, hbc, hbn, hbm⟩

def gsum (ls : List (Option Addr × List UInt8 × Nat)) : Nat := (ls.map fun x => 1 + x.2.1.length).sum
theorem gsum_take {ls : List (Option Addr × List UInt8 × Nat)} {k : Nat} {x : Option Addr × List UInt8 × Nat} (h : ls[k]? = some x) : gsum (ls.take (k + 1)) = gsum (ls.take k) + (1 + x.2.1.length) := by
  unfold gsum
  rw [List.take_add_one, h, List.map_append, List.sum_append]
  simp
theorem gsum_mem {ls : List (Option Addr × List UInt8 × Nat)} {x : Option Addr × List UInt8 × Nat} (h : x ∈ ls) : x.2.1.length + 1 ≤ gsum ls := by
  induction ls with
  | nil => cases h
  | cons y l ih =>
    simp only [gsum, List.map_cons, List.sum_cons]
    rcases List.mem_cons.1 h with rfl | h
    · omega
    · have := ih h; unfold gsum at this; omega
theorem gsum_len (ls : List (Option Addr × List UInt8 × Nat)) : ls.length ≤ gsum ls := by
  induction ls with
  | nil => simp
  | cons y l ih =>
    simp only [gsum, List.map_cons, List.sum_cons, List.length_cons] at ih ⊢
    omega

def GrP (ls : List (Option Addr × List UInt8 × Nat)) (e : Ending) : Prop := ∃ b, e = .returned (.bool b) ∧ (b = false → gsum ls ≤ 600)

set_option maxHeartbeats 4000000 in
set_option maxRecDepth 100000 in
theorem GreatB_calls (w : World) (ao : Option Addr) (ls : List (Option Addr × List UInt8 × Nat)) (c : Nat) (_hlc : ls.length ≤ c) (h1 : Bss w ao ls) (hr : ls.length ≤ reachBytes) :
    Calls Tryd.prog 14 #[.slice ao ls.length c] w fun e w' => GrP ls e ∧ w = w' := by
  have hrb : reachBytes ≤ 140737488355328 := by decide
  have hlr : ls.length ≤ 140737488355328 := Nat.le_trans hr hrb
  have H1 := Lib.hid h1
  have HRB := Lib.hid hrb
  clear h1 _hlc hr hrb
  go_enter Tryd.func14, Tryd.ntmps14
  go_wp2_with fail
  go_loop [3, 4] (fun v3 v4 => ∃ k n : Nat, v3 = .int .i64 n ∧ v4 = .int .i64 k ∧ k ≤ ls.length ∧ n = gsum (ls.take k)) (fun _ v4 => ls.length - (intOf v4).toNat)
  case atStart => exact ⟨0, 0, rfl, rfl, Nat.zero_le _, rfl⟩
  case round =>
    obtain ⟨k, n, rfl, rfl, hk, hn⟩ := hrel
    by_cases hkl : k < ls.length
    · obtain ⟨bb, off, bo, l, cb, rfl, hx, hcell, -, -, -, hbm⟩ := BssF.nth H1.out hkl
      have hbm : l.length ≤ 140737488355328 := Nat.le_trans hbm HRB.out
      by_cases hbig : 600 < n
      · have t1 : decide ((n : Int) ≤ (600 : Int)) = false := decide_eq_false (by omega)
        have t2 : decide ((600 : Int) < (n : Int)) = true := decide_eq_true (by omega)
        clear hx hcell hbm hk hn hbig
        go_wp2_with fail
        go_ret
        exact ⟨⟨true, rfl, nofun⟩, rfl⟩
      · have t1 : decide ((n : Int) ≤ (600 : Int)) = true := decide_eq_true (by omega)
        have w1' : wrap64 ((n : Int) + 1) = (n : Int) + 1 := IntWalk.wrap64_in _ (by omega)
        have w2' : wrap64 ((n : Int) + 1 + (l.length : Int)) = (n : Int) + 1 + (l.length : Int) := IntWalk.wrap64_in _ (by omega)
        have HW2 := Lib.hid w2'
        have HN : Hid (gsum (ls.take (k + 1)) = n + (1 + l.length)) := Lib.hid (by rw [gsum_take hx, hn])
        have HKL := Lib.hid hkl
        have HK2 : Hid (wrap64 ((k : Int) + 1) = ((k + 1 : Nat) : Int)) := Lib.hid (by rw [IntWalk.wrap64_in _ (by omega)]; rfl)
        clear hx hbig hk hn hlr hbm
        go_wp2_with fail
        go_round
        case rel => exact ⟨k + 1, n + 1 + l.length, congrArg (Value.int .i64) (by first | rfl | (rw [HW2.out]; rfl)), by rw [HK2.out], HKL.out, by rw [HN.out]; omega⟩
        case measure => have := HKL.out; rw [HK2.out]; simp [intOf]; omega
    · obtain rfl : k = ls.length := by omega
      have HN := Lib.hid hn
      clear hk hn
      go_wp2_with fail
      go_ret
      refine ⟨⟨_, rfl, fun hb => ?_⟩, rfl⟩
      have h2 := of_decide_eq_false hb
      have h3 := HN.out
      rw [List.take_length] at h3
      omega
end Go.Proofs.YteneioapchhehaaDoor
