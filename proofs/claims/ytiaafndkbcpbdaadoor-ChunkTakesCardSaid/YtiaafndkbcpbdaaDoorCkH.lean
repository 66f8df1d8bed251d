/- strconv.AppendInt at base 16, walked. -/
import Derived.Test.YtiaafndkbcpbdaaDoorCkG
namespace Go.Proofs.YtiaafndkbcpbdaaDoor
open Go.RowKit

/-- the table's cell that TrailingZeros(16) reads -/
def Tz16 (w : World) : Prop := w.cell? ⟨4, 15, none⟩ = some (.int .u8 4)

set_option maxHeartbeats 400000 in
theorem tz64_calls (w : World) (h : Tz16 w) : Calls Tryd.prog 61 #[.int .u64 16] w fun e w' => e = .returned (.int .i64 4) ∧ w = w' := by
  unfold Tz16 at h
  have hx : IntKind.u64.wrap (Go.bits .and .u64 16 (IntKind.u64.wrap (-16)) * 285870213051353865) / 288230376151711744 = 15 := by decide +kernel
  go_enter Tryd.func61, Tryd.ntmps61
  go_wp2
  go_ret
  exact ⟨rfl, rfl⟩
set_option maxHeartbeats 400000 in
theorem tz_calls (w : World) (h : Tz16 w) : Calls Tryd.prog 56 #[.int .u64 16] w fun e w' => e = .returned (.int .i64 4) ∧ w = w' := by
  have H := Lib.hid h
  clear h
  go_enter Tryd.func56, Tryd.ntmps56
  go_wp2_with (go_at_call 61; refine (tz64_calls _ H.out).mono ?_; rintro e w' ⟨rfl, rfl⟩)
  go_ret
  exact ⟨rfl, rfl⟩
set_option maxHeartbeats 400000 in
theorem isPow_calls (w : World) : Calls Tryd.prog 55 #[.int .i64 16] w fun e w' => e = .returned (.bool true) ∧ w = w' := by
  go_enter Tryd.func55, Tryd.ntmps55
  go_wp2
  go_ret
  exact ⟨rfl, rfl⟩

def hexDig (n : Nat) : UInt8 := UInt8.ofNat (if n < 10 then 48 + n else 87 + n)
/-- a number in hexadecimal -/
def hexL (n : Nat) : List UInt8 := if n < 16 then [hexDig n] else hexL (n / 16) ++ [hexDig (n % 16)]
termination_by n
decreasing_by omega

abbrev allDigits : ByteArray := { data := #[48, 49, 50, 51, 52, 53, 54, 55, 56, 57, 97, 98, 99, 100, 101, 102, 103, 104, 105, 106, 107, 108, 109, 110, 111, 112, 113, 114, 115, 116, 117, 118, 119, 120, 121, 122] }

/-- the loop: what has been written stands at the array's end -/
def FbRel (w : World) (n0 : Nat) (n i : Nat) (wr : World) : Prop :=
  ∃ (suf : List UInt8) (cur : Array Value), i + suf.length = 65 ∧ suf.length ≤ 11 ∧ n < 16 ^ (12 - suf.length) ∧ wr.heap[w.heap.size]? = some (.cells cur 87 (0, 0)) ∧ cur.size = 65 ∧
    (∀ j (b : UInt8), suf[j]? = some b → cur[i + j]? = some (bv b)) ∧ hexL n0 = hexL n ++ suf ∧ Below w.heap.size w wr ∧ wr.heap.size = w.heap.size + 1

theorem and15 (n : Nat) (h : n < 281474976710656) : Go.bits .and .u64 (n : Int) 15 = ((n % 16 : Nat) : Int) := by
  have := bits_mask .u64 48 (by decide) (fun m h0 h1 => by simp only [IntKind.wrap, IntKind.bits, IntKind.signed]; simp; omega) 4 (by decide) (n : Int) (by omega) (by simp; omega)
  simpa using this
theorem FbRel.start (w : World) (n : Nat) (hn : n < 16 ^ 12) : FbRel w n n 65 (w.alloc (Obj.cells Tryd.zeroCells87 87)) :=
  ⟨[], Tryd.zeroCells87, rfl, by simp, by simpa using hn, heap_alloc_new w _, by kernel_rfl, fun j b h => by simp at h, by simp, (Below.refl _ _).alloc (Nat.le_refl _) _, by simp⟩

theorem digits_all : ∀ r : Fin 36, allDigits.data.toList.getD r.val 0 = hexDig r.val := by decide
theorem digits_at (r : Nat) (h : r < allDigits.size) : allDigits[r]'h = hexDig r := by
  have h36 : r < 36 := h
  have := digits_all ⟨r, h36⟩
  dsimp only at this
  rw [← this]
  have e : allDigits[r]'h = allDigits.data[r]'h := rfl
  rw [e, List.getD_eq_getElem?_getD, Array.getElem?_toList, Array.getElem?_eq_getElem h]
  rfl

theorem pow16_step (n k : Nat) (h : n < 16 ^ (k + 1)) : n / 16 < 16 ^ k := by
  rw [Nat.pow_succ] at h
  omega
theorem hexL_step (n : Nat) (h : 16 ≤ n) : hexL n = hexL (n / 16) ++ [hexDig (n % 16)] := by rw [hexL, if_neg (by omega)]
theorem hexL_last (n : Nat) (h : n < 16) : hexL n = [hexDig n] := by rw [hexL, if_pos h]

/-- what the loop's relation gives of the next cell -/
theorem FbRel.next {w : World} {n0 n i : Nat} {wr : World} (h : FbRel w n0 n i wr) : ∃ j, i = j + 1 ∧ j < 65 ∧ n < 281474976710656 ∧ (∃ cv, wr.cell? ⟨w.heap.size, j, none⟩ = some cv) ∧ wr.frozen? ⟨w.heap.size, j, none⟩ = false := by
  obtain ⟨suf, cur, hi, hsl, hnl, hblk, hcs, hcur, hhex, hbel, hws⟩ := h
  obtain ⟨j, rfl⟩ : ∃ j, i = j + 1 := ⟨i - 1, by omega⟩
  have h1 : (16 : Nat) ^ (12 - suf.length) ≤ 16 ^ 12 := Nat.pow_le_pow_right (by omega) (by omega)
  have h2 : (16 : Nat) ^ 12 = 281474976710656 := by decide
  exact ⟨j, rfl, by omega, by omega, ⟨cur[j]'(by omega), by rw [blk_cell hblk]; exact Array.getElem?_eq_getElem _⟩, blk_free hblk _⟩

theorem put_suf {cur : Array Value} {suf : List UInt8} {j : Nat} {x : UInt8} (hcs : cur.size = 65) (hj : j < 65) (hcur : ∀ k (b : UInt8), suf[k]? = some b → cur[j + 1 + k]? = some (bv b)) :
    ∀ k (b : UInt8), (x :: suf)[k]? = some b → (cur.setIfInBounds j (bv x))[j + k]? = some (bv b) := by
  intro k b hk
  cases k with
  | zero =>
    simp only [List.getElem?_cons_zero, Option.some.injEq] at hk
    subst hk
    simp [Array.getElem?_setIfInBounds, hcs, hj]
  | succ k =>
    simp only [List.getElem?_cons_succ] at hk
    rw [Array.getElem?_setIfInBounds, if_neg (by omega)]
    have := hcur k b hk
    rw [show j + (k + 1) = j + 1 + k from by omega]
    exact this

theorem FbRel.step {w : World} {n0 n j : Nat} {wr : World} (h : FbRel w n0 n (j + 1) wr) (hge : 16 ≤ n) (x : UInt8) (hx : x = hexDig (n % 16)) : FbRel w n0 (n / 16) j (wr.setCell ⟨w.heap.size, j, none⟩ (bv x)) := by
  obtain ⟨suf, cur, hi, hsl, hnl, hblk, hcs, hcur, hhex, hbel, hws⟩ := h
  have hlen : suf.length ≤ 10 := by
    by_cases h11 : suf.length = 11
    · rw [h11] at hnl; simp at hnl; omega
    · omega
  refine ⟨x :: suf, cur.setIfInBounds j (bv x), by simp; omega, by simp; omega, ?_, blk_set hblk j _, by simpa using hcs, put_suf hcs (by omega) hcur, ?_, hbel.setCell (Nat.le_refl _) _, by simpa [World.setCell] using hws⟩
  · rw [List.length_cons]
    exact pow16_step n _ (by rw [show 12 - (suf.length + 1) + 1 = 12 - suf.length from by omega]; exact hnl)
  · rw [hhex, hexL_step n hge, hx]
    simp

theorem FbRel.last {w : World} {n0 n j : Nat} {wr : World} (h : FbRel w n0 n (j + 1) wr) (hlt : n < 16) (x : UInt8) (hx : x = hexDig n) :
    Bs (wr.setCell ⟨w.heap.size, j, none⟩ (bv x)) (some ⟨w.heap.size, j, none⟩) (hexL n0) ∧ (hexL n0).length = 65 - j ∧ (hexL n0).length ≤ 12 ∧ Below w.heap.size w (wr.setCell ⟨w.heap.size, j, none⟩ (bv x)) ∧ (wr.setCell ⟨w.heap.size, j, none⟩ (bv x)).heap.size = w.heap.size + 1 := by
  obtain ⟨suf, cur, hi, hsl, hnl, hblk, hcs, hcur, hhex, hbel, hws⟩ := h
  have hL : hexL n0 = x :: suf := by rw [hhex, hexL_last n hlt, hx]; rfl
  rw [hL]
  refine ⟨Bs.of_plain fun k b hk => ?_, by simp; omega, by simp; omega, hbel.setCell (Nat.le_refl _) _, by simpa [World.setCell] using hws⟩
  rw [blk_cell (blk_set hblk j (bv x))]
  exact put_suf hcs (by omega) hcur k b hk

theorem slice_arr65 (w : World) (g j : Nat) (h : j < 65) : (Instr.sliceAt 87 (.pointer (some ⟨g, 0, none⟩)) (some (.int .i64 j)) none none).run Tryd.prog w = .ok (.slice (some ⟨g, j, none⟩) (65 - j) (65 - j)) w := by
  have e1 : Tryd.prog.arrayLen 87 = 65 := by kernel_rfl
  have e2 : Tryd.prog.elem 87 = 5 := by kernel_rfl
  obtain ⟨i, hi, hz, hs1, hb1⟩ := info_parts info_u8
  rw [run_sliceAt_array_l w 87 ⟨g, 0, none⟩ (by kernel_rfl) .i64 j (by omega) (by rw [e1]; omega), e2, e1]
  simp [sizeOf, typeInfo, hi, hs1, Result.andThen, slicedAt, show ¬ (65 = j) from by omega, Addr.add_lit]

set_option maxHeartbeats 1000000 in
set_option maxRecDepth 100000 in
theorem formatBits_calls (w : World) (hT : Tz16 w) (B : Nat) (hB : B ≤ w.heap.size) (v : Value) (out : List UInt8) (ho : Ow w B v out) (hout : out.length ≤ 35184372088832) (n0 : Nat) (hn : n0 < 16 ^ 12) :
    Calls Tryd.prog 45 #[v, .int .u64 n0, .int .i64 16, .bool false, .bool true] w fun e w' => ∃ v' s, e = .returned (.tuple #[v', s]) ∧ Ow w' B v' (out ++ hexL n0) ∧ Ch (fun k => B ≤ k) w w' := by
  have hA : 4 < w.heap.size := World.block_lt_of_cell? w _ hT
  have H2 := Lib.hid (show Tz16 (w.alloc (Obj.cells Tryd.zeroCells87 87)) from (((Below.refl w.heap.size w).alloc (Nat.le_refl _) _).cell (p := ⟨4, 15, none⟩) hA).trans hT)
  have HS := Lib.hid (FbRel.start w n0 hn)
  have HO := Lib.hid ho
  have HB := Lib.hid hB
  have HOut := Lib.hid hout
  clear hT hA ho hB hout
  have hn' : (n0 : Int) < 281474976710656 := by
    have : (16 : Nat) ^ 12 = 281474976710656 := by decide
    omega
  clear hn
  go_enter Tryd.func45, Tryd.ntmps45
  go_wp2_with fail
  refine (isPow_calls _).mono ?_
  rintro e w' ⟨rfl, rfl⟩
  go_wp2_with fail
  refine (tz_calls _ H2.out).mono ?_
  rintro e w' ⟨rfl, rfl⟩
  go_wp2_with fail
  generalize w.alloc (Obj.cells Tryd.zeroCells87 87) = w1 at *
  clear H2 hn'
  go_loopw [1, 13] (fun vu vi wr => ∃ n i : Nat, vu = .int .u64 n ∧ vi = .int .i64 i ∧ FbRel w n0 n i wr) (fun vu _ _ => (intOf vu).toNat)
  case atStart => exact ⟨n0, 65, rfl, rfl, HS.out⟩
  case round =>
    obtain ⟨n, i, rfl, rfl, hrel⟩ := hrel
    clear HS
    obtain ⟨j, rfl, hj65, hn48, ⟨cv, hcell⟩, hfr⟩ := hrel.next
    have e1 : ((j + 1 : Nat) : Int) - 1 = (j : Int) := by omega
    have HR := Lib.hid hrel
    clear hrel
    by_cases hlt : n < 16
    · have HL := Lib.hid (fun x hx => HR.out.last hlt x hx)
      go_wp2_with fail
      have hsl := fun W => slice_arr65 W w.heap.size j hj65
      have hp : n < allDigits.size := by show n < 36; omega
      obtain ⟨hbs, hlen, hlen2, hbel, hsz⟩ := HL.out (allDigits[n]'hp) (digits_at n hp)
      have HBs := Lib.hid hbs
      have HLen := Lib.hid hlen
      have HBel := Lib.hid hbel
      have HSz : Hid (out.length + (65 - j) ≤ 70368744177664) := Lib.hid (by have := HOut.out; omega)
      clear hbs hlen hlen2 hbel hsz HL
      go_wp2_with fail
      rw [hsl]
      clear hsl
      generalize wr.setCell { block := w.heap.size, off := j } (Value.int .u8 (allDigits[n]'hp).toNat) = W2 at *
      have HO2 := Lib.hid (HO.out.below HBel.out)
      have HBs2 : Hid (B ≤ W2.heap.size) := Lib.hid (Nat.le_trans HB.out HBel.out.size)
      go_wp2_with (at_builtin; refine wp_app rfl _ _ rfl B v out rfl HO2.out (some ⟨w.heap.size, j, none⟩) _ _ rfl _ HLen.out HBs.out nofun HSz.out HBs2.out ?_; intro v' w2 hown hgr _; have HOw := Lib.hid hown; have HG := Lib.hid hgr; clear hown hgr)
      go_ret2
      exact ⟨_, _, rfl, HOw.out, (Ch.of_below HBel.out).grown HG.out fun k hk => .inl (HO2.out.ge k hk).1⟩
    · have hand := and15 n hn48
      have hmod : n % 16 < 16 := Nat.mod_lt _ (by omega)
      generalize hr : n % 16 = r at *
      have Hr := Lib.hid hr
      clear hr
      go_wp2_with fail
      go_roundw
      case rel => exact ⟨n / 16, j, by go_num, by go_num, HR.out.step (by omega) _ (by rw [Hr.out]; exact digits_at r _)⟩
      case measure => simp [intOf]; omega

end Go.Proofs.YtiaafndkbcpbdaaDoor
