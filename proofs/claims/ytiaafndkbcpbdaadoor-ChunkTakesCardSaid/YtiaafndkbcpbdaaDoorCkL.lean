/- The laws' own small functions: same, wakes. -/
import Derived.Test.YtiaafndkbcpbdaaDoorCkK
namespace Go.Proofs.YtiaafndkbcpbdaaDoor
open Go.RowKit

set_option maxHeartbeats 400000 in
theorem same_calls (w : World) (ao bo : Option Addr) (l1 l2 : List UInt8) (c d : Nat) (h1 : Bs w ao l1) (h2 : Bs w bo l2) :
    Calls Tryd.prog 14 #[.slice ao l1.length c, .slice bo l2.length d] w fun e w' => e = .returned (.bool (l1 == l2)) ∧ w = w' := by
  have r1 := run_str h1 rfl c
  have r2 := run_str h2 rfl d
  clear h1 h2
  go_enter Tryd.func14, Tryd.ntmps14
  go_wp2
  go_ret
  exact ⟨ret1 (bEq (by simp)), rfl⟩

theorem Take_calls (w : World) (g : Nat) (r : Rd) (hi : RdI r) (h : RdAt w g r) (hE : ErrVar 1 w) (hg : 1 < g) (ao : Option Addr) (l : List UInt8) (hl : l.length ≤ 1099511627776) (c : Nat) (hc : l.length ≤ c) (hb : Bs w ao l) :
    Calls Tryd.prog 12 #[.pointer (some ⟨g, 0, none⟩), .slice ao l.length c] w (TkPost w g (takeA r l)) := by
  unfold takeA
  by_cases h11 : r.st = 11
  · rw [if_pos h11]; exact Take_broken w g r h11 h _
  · rw [if_neg h11]; exact Take_run w g r hi (by have := hi.st; omega) h hE hg ao l hl c hc hb

theorem Tz16.below {w w' : World} (h : Tz16 w) (hb : Below w.heap.size w w') : Tz16 w' := (hb.cell (p := ⟨4, 15, none⟩) (World.block_lt_of_cell? w _ h)).trans h

/-- the package variables that chunk reads -/
structure Gv (w : World) : Prop where
  tz : Tz16 w
  es : ErrVar 1 w
theorem Gv.below {w w' : World} (h : Gv w) (hb : Below w.heap.size w w') : Gv w' := ⟨h.tz.below hb, GV_below h.es hb⟩
theorem Gv.ch {S : Nat → Prop} {w w' : World} (h : Gv w) (hc : Ch S w w') (hS : ∀ k, S k → 4 < k ∧ 1 < k) : Gv w' :=
  ⟨(World.cell?_of_block (w := w) (a := ⟨4, 15, none⟩) (hc.block 4 (World.block_lt_of_cell? w _ h.tz) (fun hs => Nat.lt_irrefl _ (hS _ hs).1))).trans h.tz, h.es.ch hc (fun hs => Nat.lt_irrefl _ (hS _ hs).2)⟩
theorem Gv.lt {w : World} (h : Gv w) : 4 < w.heap.size ∧ 1 < w.heap.size := ⟨World.block_lt_of_cell? w _ h.tz, h.es.lt⟩

/-- Take of a constant -/
theorem Take_const (w : World) (g : Nat) (r : Rd) (hi : RdI r) (h : RdAt w g r) (hG : Gv w) (hg : 1 < g) (L : List UInt8) (hl : L.length ≤ 1000) (fr : Nat × Nat) :
    Calls Tryd.prog 12 #[.pointer (some ⟨g, 0, none⟩), .slice (some ⟨w.heap.size, 0, none⟩) L.length L.length] (w.alloc (.cells (L.map bv).toArray 5 fr)) fun e w' =>
      ∃ ao c, e = .returned (.tuple #[.slice ao (takeA r L).2.1.length c, .int .i64 (takeA r L).2.2.1, .int .i64 (errN (takeA r L).2.2.2)]) ∧ Bs w' ao (takeA r L).2.1 ∧ RdAt w' g (takeA r L).1 ∧ Ch (· = g) w w' := by
  have hb := (Below.refl w.heap.size w).alloc (Nat.le_refl _) (.cells (L.map bv).toArray 5 fr)
  refine (Take_calls (w.alloc (.cells (L.map bv).toArray 5 fr)) g r hi (h.below hb) (GV_below hG.es hb) hg (some ⟨w.heap.size, 0, none⟩) L (by omega) L.length (Nat.le_refl _) (Bs.of_block (heap_alloc_new w _))).mono ?_
  rintro e w' ⟨ov, rfl, ho, hr, hc⟩
  obtain ⟨ao, c, rfl, h1, -⟩ := ho.bs'
  exact ⟨ao, c, rfl, h1, hr, (Ch.of_below (S := (· = g)) hb).trans hc⟩
theorem Whole_const (w : World) (hG : Gv w) (L : List UInt8) (hl : L.length ≤ 1000) (fr : Nat × Nat) (n : Nat) (hn : 1 ≤ n) (hn2 : n ≤ 1000) :
    Calls Tryd.prog 17 #[.slice (some ⟨w.heap.size, 0, none⟩) L.length L.length, .int .i64 n] (w.alloc (.cells (L.map bv).toArray 5 fr)) fun e w' =>
      ∃ ao c, e = .returned (.tuple #[.slice ao (wholeL L n).length c, .int .i64 0]) ∧ Bs w' ao (wholeL L n) ∧ Below w.heap.size w w' := by
  have hb := (Below.refl w.heap.size w).alloc (Nat.le_refl _) (.cells (L.map bv).toArray 5 fr)
  refine (Whole_calls (w.alloc (.cells (L.map bv).toArray 5 fr)) (hG.tz.below hb) (some ⟨w.heap.size, 0, none⟩) L L.length (by omega) (Nat.le_refl _) (Bs.of_block (heap_alloc_new w _)) n hn (by omega)).mono ?_
  rintro e w' ⟨ov, rfl, ho, hc⟩
  obtain ⟨ao, c, rfl, h1, -⟩ := ho.bs'
  exact ⟨ao, c, rfl, h1, hb.trans (hc.mono hb.size)⟩

abbrev exA : List UInt8 := [51, 13, 10, 97, 98, 99, 13, 10, 48, 13, 10, 13, 10, 114, 101, 115, 116]
theorem exA_take : takeA ⟨0, 0, 0, 0⟩ exA = (⟨10, 0, 0, 0⟩, [97, 98, 99], 13, true) := by kernel_rfl
abbrev exB : List UInt8 := [71]
theorem exB_take : takeA ⟨0, 0, 0, 0⟩ exB = (⟨11, 0, 0, 0⟩, [], 0, false) := by kernel_rfl
abbrev exC : List UInt8 := [97, 98, 99, 100, 101]
theorem exC_whole : wholeL exC 2 = [50, 13, 10, 97, 98, 13, 10, 50, 13, 10, 99, 100, 13, 10, 49, 13, 10, 101, 13, 10, 48, 13, 10, 13, 10] := by decide +kernel

set_option maxHeartbeats 2000000 in
set_option maxRecDepth 100000 in
theorem wakes_calls (w : World) (hG : Gv w) : Calls Tryd.prog 10 #[] w fun e w' => e = .returned (.bool true) ∧ Below w.heap.size w w' := by
  have kc := fun (w : World) (C : Array Value) (n c : Nat) => Lib.run_convert_bytes_const (P := Tryd.prog) w 24 5 C n c Tryd.underlying24 Tryd.underlying5
  have HG := Lib.hid hG
  have HX := Lib.hid hG.lt
  clear hG
  go_enter Tryd.func10, Tryd.ntmps10
  go_wp2_with fail
  refine (New_calls _).mono ?_
  rintro e w1 ⟨rfl, hr1, hb1⟩
  have HR1 := Lib.hid hr1
  have HB1 := Lib.hid hb1
  clear hr1 hb1
  go_wp2_with fail
  refine (Take_const w1 w.heap.size ⟨0, 0, 0, 0⟩ RdI.zero HR1.out (HG.out.below HB1.out) HX.out.2 exA (by decide) _).mono ?_
  rw [exA_take]
  rintro e w2 ⟨a2, c2, rfl, hs2, hr2, hc2⟩
  have HS2 := Lib.hid hs2
  have HR2 := Lib.hid hr2
  have HB2 := Lib.hid (Below.ch HB1.out hc2 (fun k hk => Nat.le_of_eq hk.symm) HB1.out.size)
  clear hs2 hr2 hc2
  go_wp2_with fail
  refine (New_calls _).mono ?_
  rintro e w3 ⟨rfl, hr3, hb3⟩
  have HR3 := Lib.hid hr3
  have HB3 := Lib.hid hb3
  clear hr3 hb3
  go_wp2_with fail
  refine (Take_const w3 w2.heap.size ⟨0, 0, 0, 0⟩ RdI.zero HR3.out ((HG.out.below HB2.out).below HB3.out) (Nat.lt_of_lt_of_le HX.out.2 HB2.out.size) exB (by decide) _).mono ?_
  rw [exB_take]
  rintro e w4 ⟨a4, c4, rfl, hs4, hr4, hc4⟩
  have HB4 := Lib.hid (Below.ch HB3.out hc4 (fun k hk => Nat.le_of_eq hk.symm) HB3.out.size)
  clear hs4 hr4 hc4
  go_wp2_with fail
  refine (Whole_const w4 ((HG.out.below HB2.out).below HB4.out) exC (by decide) _ 2 (by decide) (by decide)).mono ?_
  rw [exC_whole]
  rintro e w5 ⟨a5, c5, rfl, hs5, hb5⟩
  have HB5 := Lib.hid (HB4.out.trans (hb5.mono HB4.out.size))
  have rs1 := run_str (n := 25) hs5 rfl c5
  have rs2 := run_str (n := 3) (HS2.out.below HB5.out) rfl c2
  have et : errN true = 0 := rfl
  have ef : errN false = 2 := rfl
  have HR5 := Lib.hid (HR2.out.below HB5.out)
  clear hs5 hb5 kc
  go_wp2_with (go_at_call 15; refine (Done_calls _ _ _ HR5.out).mono ?_; rintro e w' ⟨rfl, rfl⟩)
  go_ret
  exact ⟨rfl, HB2.out.trans (HB5.out.mono HB2.out.size)⟩
end Go.Proofs.YtiaafndkbcpbdaaDoor
