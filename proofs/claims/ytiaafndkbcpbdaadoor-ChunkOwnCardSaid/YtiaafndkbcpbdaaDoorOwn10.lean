/- ChunkOwn: the law's walk. -/
import Derived.Test.YtiaafndkbcpbdaaDoorRfB
namespace Go.Proofs.YtiaafndkbcpbdaaDoor
open Go.RowKit

/-- an owned row that may be written: block g, room cap, the bytes l -/
def Raw (w : World) (g cap : Nat) (l : List UInt8) : Prop :=
  ∃ cur, w.heap[g]? = some (.cells cur 5 (0, 0)) ∧ l.length ≤ cap ∧ cur.size = cap ∧ cur.toList.take l.length = l.map bv
theorem Raw.lt {w : World} {g cap : Nat} {l : List UInt8} (h : Raw w g cap l) : g < w.heap.size := by
  obtain ⟨cur, hh, _⟩ := h
  exact lt_of_block hh
theorem Raw.bs {w : World} {g cap : Nat} {l : List UInt8} (h : Raw w g cap l) : Bs w (some ⟨g, 0, none⟩) l := by
  obtain ⟨cur, hh, hn, hs, ht⟩ := h
  refine Bs.of_plain fun j x hj => ?_
  rw [Nat.zero_add, blk_cell hh]
  have h2 : (l.map bv)[j]? = some (bv x) := by rw [List.getElem?_map, hj]; rfl
  have hlt : j < l.length := (List.getElem?_eq_some_iff.1 hj).1
  rw [← ht, List.getElem?_take_of_lt hlt, Array.getElem?_toList] at h2
  exact h2
theorem Raw.block {w w' : World} {g cap : Nat} {l : List UInt8} (h : Raw w g cap l) (hb : w'.heap[g]? = w.heap[g]?) : Raw w' g cap l := by
  obtain ⟨cur, hh, rest⟩ := h
  exact ⟨cur, hb.trans hh, rest⟩

/-- append([]byte{}, bytes...) -/
theorem wp_fresh {w0 : World} {ops : Array Oper} {rest : List Oper} {o : Oper} {a : Act} {Q : Exit → Act → World → Prop} (hgd : o.guard = none) (s x : Operand)
    (ho : o.op = .call { callee := .builtin .append, args := #[s, x], argTypes := #[24, 24] })
    (hs : a.eval s = .slice (some ⟨w0.heap.size, 0, none⟩) 0 0) (ao : Option Addr) (m c : Nat) (hx : a.eval x = .slice ao m c) (l : List UInt8) (hm : l.length = m) (hB : Bs w0 ao l) (hl : 0 < l.length) (hsz : m ≤ 70368744177664)
    (h : ∀ g cap w', Raw w' g cap l → w0.heap.size ≤ g → Below w0.heap.size w0 w' → wpList Tryd.prog ops Q rest (a.put o.dst (.slice (some ⟨g, 0, none⟩) m cap)) w') : wpList Tryd.prog ops Q (o :: rest) a (w0.alloc (.cells #[] 5)) := by
  subst hm
  have hbel : Below w0.heap.size w0 (w0.alloc (.cells #[] 5)) := (Below.refl w0.heap.size w0).alloc (Nat.le_refl _) _
  obtain ⟨b, off, rfl⟩ := hB.some_of hl
  obtain ⟨i, hi, hz, hs1, hb1⟩ := info_parts info_u8
  have hown : (w0.alloc (.cells #[] 5)).ownsRow w0.heap.size 5 1 (.slice (some ⟨w0.heap.size, 0, none⟩) 0 0) 0 [] := ⟨rfl, .inr ⟨w0.heap.size, 0, #[], rfl, Nat.le_refl _, heap_alloc_new w0 _, Nat.le_refl _, Nat.zero_le _, rfl, rfl⟩⟩
  obtain ⟨v', w', hr, h2, h3, h4⟩ := run_append_own (P := Tryd.prog) (w0.alloc (.cells #[] 5)) w0.heap.size 24 o.type 5 i (.int .u8 0) 1 1 Tryd.underlying24 hi hz hs1 hb1 rfl (by omega) _ 0 [] hown ⟨b, off, none⟩ l.length c (l.map bv) (by simp) (hB.below hbel).news (oneCell_bv l) (by unfold maxLen; omega) (by omega) (by simp)
  refine wpList_plain hgd fun K hK => ?_
  unfold Oper.wp execOp
  simp only [ho, resolve, invoke, builtin, Sem.run_bind, Sem.run_pure, Result.andThen_ok, List.map_toArray, List.map_cons, List.map_nil, hs, hx, hr]
  refine hK _ _ ?_
  obtain ⟨hxl, hv | ⟨g, cap, cur, rfl, hg, hh, hn, hc, hcs, ht⟩⟩ := h2
  · omega
  · rw [Nat.zero_add] at hn ht ⊢
    rw [Nat.mul_one, List.nil_append] at ht
    rw [Nat.mul_one] at hcs
    exact h g cap w' ⟨cur, hh, hn, hcs, ht⟩ hg (hbel.grown h3 hbel.size fun k hk => by cases hk; exact Nat.le_refl _)

/-- a loop over a row that is written -/
def WrRel (w0 : World) (g cap n : Nat) (wr : World) : Prop :=
  ∃ cur, wr.heap[g]? = some (.cells cur 5 (0, 0)) ∧ cur.size = cap ∧ (∀ j, j < n → ∃ x, cur[j]? = some (.int .u8 x)) ∧ Ch (· = g) w0 wr
theorem Raw.wr {w : World} {g cap : Nat} {l : List UInt8} (h : Raw w g cap l) : WrRel w g cap l.length w := by
  obtain ⟨cur, hh, hn, hs, ht⟩ := h
  refine ⟨cur, hh, hs, fun j hj => ?_, Ch.refl _ _⟩
  have h2 : (l.map bv)[j]? = some (bv l[j]) := by rw [List.getElem?_map, List.getElem?_eq_getElem hj]; rfl
  rw [← ht, List.getElem?_take_of_lt hj, Array.getElem?_toList] at h2
  exact ⟨_, h2⟩
theorem WrRel.set {w0 wr : World} {g cap n : Nat} (h : WrRel w0 g cap n wr) (i : Nat) (hi : i < cap) (y : Int) : WrRel w0 g cap n (wr.setCell ⟨g, i, none⟩ (.int .u8 y)) := by
  obtain ⟨cur, hh, hs, hx, hc⟩ := h
  refine ⟨_, blk_set hh i _, by simpa using hs, fun j hj => ?_, Ch.set (S := (· = g)) hc (.inl rfl) _⟩
  rw [Array.getElem?_setIfInBounds]
  split
  · rename_i e
    rw [if_pos (by omega)]
    exact ⟨y, rfl⟩
  · exact hx j hj

set_option maxHeartbeats 1000000 in
theorem Own_big (w : World) (hG : Gv w) (ao : Option Addr) (l c : Nat) (hl : 300 < l ∨ l = 0) :
    Calls Tryd.prog 9 #[.slice ao l c] w fun e w' => e = .returned (.bool true) ∧ Below w.heap.size w w' := by
  have HG := Lib.hid hG
  by_cases hl1 : 300 < l
  · have t1 : decide ((300 : Int) < (l : Int)) = true := decide_eq_true (by omega)
    clear hG hl
    go_enter Tryd.func9, Tryd.ntmps9
    go_wp2_with fail
    refine (wakes_calls _ HG.out).mono ?_
    rintro e w1 ⟨rfl, hb1⟩
    have HB1 := Lib.hid hb1
    clear hb1
    go_wp2_with fail
    go_ret
    exact ⟨rfl, HB1.out⟩
  · obtain rfl : l = 0 := by omega
    clear hG hl hl1
    go_enter Tryd.func9, Tryd.ntmps9
    go_wp2_with fail
    refine (wakes_calls _ HG.out).mono ?_
    rintro e w1 ⟨rfl, hb1⟩
    have HB1 := Lib.hid hb1
    clear hb1
    go_wp2_with fail
    go_ret
    exact ⟨rfl, HB1.out⟩

set_option maxHeartbeats 2000000 in
set_option maxRecDepth 100000 in
theorem Own_calls (w : World) (hG : Gv w) (ao : Option Addr) (l : List UInt8) (c : Nat) (hlc : l.length ≤ c) (h1 : Bs w ao l) (hao : ao = none → c = 0) :
    Calls Tryd.prog 9 #[.slice ao l.length c] w fun e w' => e = .returned (.bool true) ∧ Below w.heap.size w w' := by
  by_cases hl1 : 300 < l.length
  · exact Own_big w hG ao _ c (.inl hl1)
  by_cases hl0 : l.length = 0
  · exact Own_big w hG ao _ c (.inr hl0)
  have t1 : decide ((300 : Int) < (l.length : Int)) = false := decide_eq_false (by omega)
  have t2 : ((l.length : Int) == 0) = false := beq_eq_false_iff_ne.2 (by omega)
  have HL : Hid (0 < l.length ∧ l.length ≤ 300) := Lib.hid (by omega)
  obtain ⟨C, hC⟩ : ∃ C, putL l = C := ⟨_, rfl⟩
  have hq : takeA ⟨0, 0, 0, 0⟩ C = (⟨0, 0, 0, 0⟩, l, C.length, true) := by
    have e : takeA ⟨0, 0, 0, 0⟩ C = runA ⟨0, 0, 0, 0⟩ C [] 0 := if_neg (by decide)
    have h := runA_put l (by have e : (16 : Nat) ^ 12 = 281474976710656 := by decide
                             omega) [] [] 0
    rw [List.append_nil, hC] at h
    rw [e, h, runA]
    simp
  have HCL : Hid (0 < C.length ∧ C.length ≤ 316) := Lib.hid (by
    have h2 := putL_len l (by omega)
    have h3 : putL l = hexL l.length ++ [13, 10] ++ l ++ [13, 10] := if_neg (by intro h; rw [h] at hl0; simp at hl0)
    rw [← hC]
    refine ⟨by rw [h3]; simp; omega, by omega⟩)
  have HQ := Lib.hid hq
  have HCC := Lib.hid hC
  have H1 := Lib.hid h1
  have HG := Lib.hid hG
  have HX := Lib.hid hG.lt
  have HA := Lib.hid hao
  clear h1 hG hl1 hl0 hlc hao hq hC
  have et : errN true = 0 := rfl
  go_enter Tryd.func9, Tryd.ntmps9
  go_wp2_with fail
  refine (wakes_calls _ HG.out).mono ?_
  rintro e w1 ⟨rfl, hb1⟩
  have HB1 := Lib.hid hb1
  clear hb1
  go_wp2_with (first
    | (at_builtin; refine wp_fresh rfl _ _ rfl rfl ao _ _ rfl l rfl (H1.out.below HB1.out) HL.out.1 (Nat.le_trans HL.out.2 (by decide)) ?_; intro g2 cap2 w2 hraw hge hbel; have HR2 := Lib.hid hraw; have HGE2 := Lib.hid hge; have HB2 := Lib.hid (HB1.out.trans (hbel.mono HB1.out.size)); clear hraw hge hbel))
  refine (Put_calls w2 (HG.out.below HB2.out).tz (some ⟨g2, 0, none⟩) l cap2 (Nat.le_trans HL.out.2 (by decide)) HR2.out.bs).mono ?_
  rw [HCC.out]
  rintro e w3 ⟨v3, rfl, ho3, hb3⟩
  obtain ⟨a3, c3, rfl, hs3, -, hge3, hn3⟩ := ho3.bs'
  have HB3 := Lib.hid (HB2.out.trans (hb3.mono HB2.out.size))
  have HS3 := Lib.hid hs3
  have HGE3 := Lib.hid hge3
  have HN3 := Lib.hid hn3
  have HZ23 := Lib.hid hb3.size
  have HZ2 := Lib.hid HR2.out.lt
  have HR2 := Lib.hid (HR2.out.block (hb3.block g2 HZ2.out))
  clear hb3 hs3 ho3 hge3 hn3
  go_wp2_with fail
  refine (New_calls _).mono ?_
  rintro e w4 ⟨rfl, hr4, hb4⟩
  have HB4 := Lib.hid (HB3.out.trans (hb4.mono HB3.out.size))
  have HS3 := Lib.hid (HS3.out.below hb4)
  have HZ4 := Lib.hid (lt_of_block hr4)
  have HRD := Lib.hid hr4
  have HR2 := Lib.hid (HR2.out.block (hb4.block g2 HR2.out.lt))
  clear hb4 hr4
  go_wp2_with (first
    | (at_builtin; refine wp_fresh rfl _ _ rfl rfl a3 _ _ rfl C rfl HS3.out HCL.out.1 (Nat.le_trans HCL.out.2 (by decide)) ?_; intro g5 cap5 w5 hraw hge hbel; have HR5 := Lib.hid hraw; have HGE5 := Lib.hid hge; have HB5 := Lib.hid (HB4.out.trans (hbel.mono HB4.out.size)); have HS3 := Lib.hid (HS3.out.below hbel); have HRD := Lib.hid (HRD.out.below hbel); have HR2 := Lib.hid (HR2.out.block (hbel.block g2 HR2.out.lt)); clear hraw hge hbel))
  refine (Take_calls w5 w3.heap.size ⟨0, 0, 0, 0⟩ RdI.zero HRD.out (HG.out.below HB5.out).es (Nat.lt_of_lt_of_le HX.out.2 HB3.out.size) (some ⟨g5, 0, none⟩) C (Nat.le_trans HCL.out.2 (by decide)) cap5 (by obtain ⟨_, _, h, _⟩ := HR5.out; exact h) HR5.out.bs).mono ?_
  rw [HQ.out]
  rintro e w6 ⟨v6, rfl, ho6, hr6, hc6⟩
  obtain ⟨a6, c6, rfl, hs6, -, hge6, -⟩ := ho6.bs'
  have HB6 := Lib.hid (Below.ch HB5.out hc6 (fun k hk => Nat.le_trans HB3.out.size (Nat.le_of_eq hk.symm)) HB5.out.size)
  have HZ5 := Lib.hid HR5.out.lt
  have HG5 : Hid (w3.heap.size < g5 ∧ g2 < w3.heap.size) := Lib.hid ⟨Nat.lt_of_lt_of_le HZ4.out HGE5.out, Nat.lt_of_lt_of_le HZ2.out HZ23.out⟩
  have HS6 := Lib.hid hs6
  have HGE6 := Lib.hid hge6
  have HR2 := Lib.hid (HR2.out.block (hc6.block g2 HR2.out.lt (fun e => Nat.lt_irrefl _ (e ▸ HG5.out.2))))
  have HR5 := Lib.hid (HR5.out.block (hc6.block g5 HR5.out.lt (fun e => Nat.lt_irrefl _ (e ▸ HG5.out.1))))
  have HS3 := Lib.hid (HS3.out.ch hc6 (fun b off hb _ hk => by have h1 := (HGE3.out b off none hb).2.1; have h2 : b = w3.heap.size := hk; omega))
  clear hs6 ho6 hr6 hc6 hge6 
  have HW0 := Lib.hid HR2.out.wr
  go_wp2_with fail
  go_loopw [42] (fun v42 wr => ∃ i : Nat, v42 = .int .i64 i ∧ i ≤ l.length ∧ WrRel w6 g2 cap2 l.length wr) (fun v42 _ => l.length - (intOf v42).toNat)
  case atStart => exact ⟨0, rfl, Nat.zero_le _, HW0.out⟩
  case round =>
    obtain ⟨i, rfl, hil, hrel⟩ := hrel
    by_cases hik : i < l.length
    · have HREL := Lib.hid hrel
      have HCAP : Hid (i < cap2) := Lib.hid (by obtain ⟨_, _, h, _⟩ := HR2.out; omega)
      have hk2 : wrap64 ((i : Int) + 1) = ((i + 1 : Nat) : Int) := by rw [IntWalk.wrap64_in _ (by have := HL.out; omega)]; rfl
      have HK2 := Lib.hid hk2
      obtain ⟨cur, hh, hcs, hcx, -⟩ := hrel
      obtain ⟨x, hx⟩ := hcx i hik
      have hcell : wr.cell? ⟨g2, i, none⟩ = some (.int .u8 x) := (blk_cell hh i).trans hx
      have hfree : wr.frozen? ⟨g2, i, none⟩ = false := blk_free hh i
      clear hh hcs hcx hx hk2
      go_wp2_with fail
      go_roundw
      case rel => exact ⟨i + 1, by rw [HK2.out], hik, HREL.out.set i HCAP.out _⟩
      case measure => rw [HK2.out]; simp [intOf]; omega
    · have hii : i = l.length := by omega
      subst hii
      obtain ⟨cur, hh, hcs, hcx, hch⟩ := hrel
      have HB7 := Lib.hid (Below.ch HB6.out hch (fun k hk => Nat.le_trans HB1.out.size (Nat.le_trans HGE2.out (Nat.le_of_eq hk.symm))) HB6.out.size)
      have HR5 := Lib.hid (HR5.out.block (hch.block g5 HR5.out.lt (fun e => by have := HG5.out; have e2 : g5 = g2 := e; omega)))
      have HS3 := Lib.hid (HS3.out.ch hch (fun b off hb _ hk => by have h1 := (HGE3.out b off none hb).1; have h2 : b = g2 := hk; have := HZ2.out; omega))
      have HS6 := Lib.hid (HS6.out.ch hch (fun b off hb _ hk => by have h1 := (HGE6.out b off none hb).1; have h2 : b = g2 := hk; have := HG5.out; have := HZ5.out; omega))
      have HZ7 := Lib.hid hch.size
      have HW5 := Lib.hid HR5.out.wr
      clear hh hcs hcx hch HW0
      generalize wr = wq at *
      go_wp2_with fail
      go_loopw [54] (fun v54 wr' => ∃ i : Nat, v54 = .int .i64 i ∧ i ≤ C.length ∧ WrRel wq g5 cap5 C.length wr') (fun v54 _ => C.length - (intOf v54).toNat)
      case atStart => exact ⟨0, rfl, Nat.zero_le _, HW5.out⟩
      case round =>
        obtain ⟨i, rfl, hil, hrel⟩ := hrel
        by_cases hik : i < C.length
        · have HREL := Lib.hid hrel
          have HCAP : Hid (i < cap5) := Lib.hid (by obtain ⟨_, _, h, _⟩ := HR5.out; omega)
          have HK2 : Hid (wrap64 ((i : Int) + 1) = ((i + 1 : Nat) : Int)) := Lib.hid (by rw [IntWalk.wrap64_in _ (by have := HCL.out; omega)]; rfl)
          obtain ⟨cur, hh, hcs, hcx, -⟩ := hrel
          obtain ⟨x, hx⟩ := hcx i hik
          have hcell : wr.cell? ⟨g5, i, none⟩ = some (.int .u8 x) := (blk_cell hh i).trans hx
          have hfree : wr.frozen? ⟨g5, i, none⟩ = false := blk_free hh i
          clear hh hcs hcx hx
          go_wp2_with fail
          go_roundw
          case rel => exact ⟨i + 1, by rw [HK2.out], hik, HREL.out.set i HCAP.out _⟩
          case measure => rw [HK2.out]; simp [intOf]; omega
        · obtain ⟨cur, hh, hcs, hcx, hch⟩ := hrel
          have HB8 := Lib.hid (Below.ch HB7.out hch (fun k hk => Nat.le_trans HB4.out.size (Nat.le_trans HGE5.out (Nat.le_of_eq hk.symm))) HB7.out.size)
          have HS3 := Lib.hid (HS3.out.ch hch (fun b off hb _ hk => by have h1 := (HGE3.out b off none hb).2.1; have h2 : b = g5 := hk; have := HG5.out; omega))
          have HS6 := Lib.hid (HS6.out.ch hch (fun b off hb _ hk => by have h1 := (HGE6.out b off none hb).1; have h2 : b = g5 := hk; have := HZ5.out; omega))
          have HBB := Lib.hid (H1.out.below HB8.out)
          clear hh hcs hcx hch
          go_wp2_with (go_at_call 14; with_reducible refine (same_calls _ _ _ _ _ _ _ HS6.out HBB.out).mono ?_; rintro e w' ⟨rfl, rfl⟩)
          refine (rPut_calls wr ao l c (Nat.le_trans HL.out.2 (by decide)) HBB.out HA.out).mono ?_
          rw [HCC.out]
          rintro e w9 ⟨v9, rfl, ho9, hb9⟩
          obtain ⟨a9, c9, rfl, hs9, -, -, -⟩ := ho9.bs'
          have HB9 := Lib.hid (HB8.out.trans (hb9.mono HB8.out.size))
          have HS3 := Lib.hid (HS3.out.below hb9)
          have HS9 := Lib.hid hs9
          clear hs9 ho9 hb9
          go_wp2_with (go_at_call 14; with_reducible refine (same_calls _ _ _ _ _ _ _ HS3.out HS9.out).mono ?_; rintro e w' ⟨rfl, rfl⟩)
          go_ret
          exact ⟨rfl, HB9.out⟩
end Go.Proofs.YtiaafndkbcpbdaaDoor
