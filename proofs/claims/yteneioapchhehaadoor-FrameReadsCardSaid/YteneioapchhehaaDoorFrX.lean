/- The reference's body reader, walked. -/
import Derived.Test.YteneioapchhehaaDoorFrQ
import Derived.Test.YteneioapchhehaaDoorRfK
namespace Go.Proofs.YteneioapchhehaaDoor
open Go.RowKit

structure Rf where
  k : Int
  left : Int
  x : RR
  ended : Bool
def Rf.cs (r : Rf) : Array Value := #[.int .i64 r.k, .int .i64 r.left, .int .i64 r.x.st, .int .i64 r.x.dg, .int .i64 r.x.ln, .int .i64 r.x.mn, .int .i64 r.x.lf, .bool r.ended]
def RfAt (w : World) (g : Nat) (r : Rf) : Prop := w.heap[g]? = some (.cells r.cs 80 (0, 0))

def rfTake (r : Rf) (l : List UInt8) : Rf × List UInt8 × Nat × Bool :=
  if r.ended = true ∨ r.k = 4 then (r, [], 0, true)
  else if r.k = 2 then ({ r with x := (rtakeA r.x l).1 }, (rtakeA r.x l).2)
  else if r.k = 1 ∧ r.left < l.length then ({ r with left := 0 }, l.take r.left.toNat, r.left.toNat, true)
  else ({ r with left := wrap64 (r.left - (l.length : Int)) }, l, l.length, true)
def rfDone (r : Rf) : Bool := if r.k = 1 then r.left == 0 else if r.k = 2 then r.x.st == 10 else if r.k = 3 then r.ended else true
def rfNew (k n : Int) : Rf := ⟨k, n, ⟨0, 0, 0, 0, 0⟩, false⟩
def endX (r : Rf) : Rf := { r with ended := true }

/-- the reader and the reference's stand alike -/
structure FCor (a : Fr) (b : Rf) : Prop where
  k : b.k = a.k
  left : a.k = 1 → b.left = a.left
  ended : b.ended = a.ended
  ch : Cor a.ch b.x
theorem FCor.new (k n : Int) : FCor (frNew k n) (rfNew k n) := ⟨rfl, fun _ => rfl, rfl, Cor.zero⟩
theorem FCor.end {a : Fr} {b : Rf} (h : FCor a b) : FCor (endR a) (endX b) := ⟨h.k, h.left, rfl, h.ch⟩
theorem FCor.done {a : Fr} {b : Rf} (h : FCor a b) : rfDone b = frDone a := by
  unfold rfDone frDone
  rw [h.k, h.ended, h.ch.st]
  split
  · rename_i h1; rw [h.left h1]
  · rfl
theorem FCor.take {a : Fr} {b : Rf} (hi : FrI a) (h : FCor a b) (l : List UInt8) (hl : l.length ≤ 1099511627776) : (rfTake b l).2 = (frTake a l).2 ∧ FCor (frTake a l).1 (rfTake b l).1 := by
  unfold rfTake frTake
  rw [h.k, h.ended]
  by_cases he : a.ended = true ∨ a.k = 4
  · rw [if_pos he, if_pos he]; exact ⟨rfl, h⟩
  rw [if_neg he, if_neg he]
  by_cases h2 : a.k = 2
  · rw [if_pos h2, if_pos h2]
    obtain ⟨c1, c2⟩ := cor_take hi.ch h.ch l
    exact ⟨c1, ⟨rfl, h.left, rfl, c2⟩⟩
  rw [if_neg h2, if_neg h2]
  by_cases h1 : a.k = 1
  · rw [if_pos h1, h.left h1]
    have hlf := hi.left
    by_cases hlt : a.left < l.length
    · rw [if_pos ⟨h1, hlt⟩]
      refine ⟨?_, ⟨rfl, fun _ => ?_, rfl, h.ch⟩⟩
      · rw [show min l.length a.left.toNat = a.left.toNat by omega]
      · dsimp only; omega
    · rw [if_neg (fun h => hlt h.2)]
      refine ⟨?_, ⟨rfl, fun _ => ?_, rfl, h.ch⟩⟩
      · rw [show min l.length a.left.toNat = l.length by omega, List.take_of_length_le (by omega)]
      · dsimp only
        rw [IntWalk.wrap64_in _ (by omega)]
        omega
  · rw [if_neg h1, if_neg (fun h => h1 h.1)]
    exact ⟨rfl, ⟨rfl, fun hk => absurd hk h1, rfl, h.ch⟩⟩

theorem RfAt.below {w w' : World} {g : Nat} {r : Rf} (h : RfAt w g r) (hb : Below w.heap.size w w') : RfAt w' g r := (hb.block _ (lt_of_block h)).trans h
theorem RfAt.ch {S : Nat → Prop} {w w' : World} {g : Nat} {r : Rf} (h : RfAt w g r) (hc : Ch S w w') (hS : ¬ S g) : RfAt w' g r := (hc.block _ (lt_of_block h) hS).trans h

theorem rf_cells {w : World} {g : Nat} {r : Rf} (h : RfAt w g r) : w.cell? ⟨g, 0, none⟩ = some (.int .i64 r.k) ∧ w.cell? ⟨g, 1, none⟩ = some (.int .i64 r.left) ∧ w.cell? ⟨g, 2, none⟩ = some (.int .i64 r.x.st) ∧ w.cell? ⟨g, 3, none⟩ = some (.int .i64 r.x.dg) ∧
    w.cell? ⟨g, 4, none⟩ = some (.int .i64 r.x.ln) ∧ w.cell? ⟨g, 5, none⟩ = some (.int .i64 r.x.mn) ∧ w.cell? ⟨g, 6, none⟩ = some (.int .i64 r.x.lf) ∧ w.cell? ⟨g, 7, none⟩ = some (.bool r.ended) :=
  ⟨blk_cell h 0, blk_cell h 1, blk_cell h 2, blk_cell h 3, blk_cell h 4, blk_cell h 5, blk_cell h 6, blk_cell h 7⟩

/-- its block holds no bytes -/
theorem rf_ne {w : World} {b off : Nat} {l : List UInt8} (h : Bs w (some ⟨b, off, none⟩) l) (hl : 0 < l.length) {g : Nat} {r : Rf} (hr : RfAt w g r) (e : b = g) : False := by
  subst e
  have h1 := h.cell 0 hl
  rw [Nat.add_zero] at h1
  rw [blk_cell hr] at h1
  match off, h1 with
  | 0, h1 => cases h1
  | 1, h1 => cases h1
  | 2, h1 => cases h1
  | 3, h1 => cases h1
  | 4, h1 => cases h1
  | 5, h1 => cases h1
  | 6, h1 => cases h1
  | 7, h1 => cases h1
  | n + 8, h1 => cases h1

def RfP (w : World) (g : Nat) (q : Rf × List UInt8 × Nat × Bool) (e : Ending) (w' : World) : Prop :=
  ∃ ao c, e = .returned (.tuple #[.slice ao q.2.1.length c, .int .i64 q.2.2.1, .int .i64 (errN q.2.2.2)]) ∧ Bs w' ao q.2.1 ∧ RfAt w' g q.1 ∧ Ch (· = g) w w'

set_option maxHeartbeats 2000000 in
set_option maxRecDepth 100000 in
theorem xDone_calls (w : World) (g : Nat) (r : Rf) (hk : 1 ≤ r.k ∧ r.k ≤ 4) (h : RfAt w g r) : Calls Tryd.prog 18 #[.pointer (some ⟨g, 0, none⟩)] w fun e w' => e = .returned (.bool (rfDone r)) ∧ Below w.heap.size w w' := by
  obtain ⟨c0, c1, c2, c3, c4, c5, c6, c7⟩ := rf_cells h
  have HD := Lib.hid (fun W => rDone_calls W r.x)
  clear h
  obtain ⟨k, left, ⟨xs, xd, xl, xm, xf⟩, ended⟩ := r
  unfold RR.v at HD
  dsimp only at *
  have h4 : k = 1 ∨ k = 2 ∨ k = 3 ∨ k = 4 := by omega
  clear hk
  rcases h4 with rfl | rfl | rfl | rfl
  · go_enter Tryd.func18, Tryd.ntmps18
    go_wp2_with fail
    go_ret
    exact ⟨rfl, Below.refl _ _⟩
  · go_enter Tryd.func18, Tryd.ntmps18
    go_wp2_with fail
    refine (HD.out _).mono ?_
    rintro e w' ⟨rfl, hb⟩
    have HB := Lib.hid hb
    clear hb
    go_wp2_with fail
    go_ret
    exact ⟨rfl, HB.out⟩
  · go_enter Tryd.func18, Tryd.ntmps18
    go_wp2_with fail
    go_ret
    exact ⟨rfl, Below.refl _ _⟩
  · go_enter Tryd.func18, Tryd.ntmps18
    go_wp2_with fail
    go_ret
    exact ⟨rfl, Below.refl _ _⟩

set_option maxHeartbeats 2000000 in
set_option maxRecDepth 100000 in
theorem xEnd_calls (w : World) (g : Nat) (r : Rf) (hk : 1 ≤ r.k ∧ r.k ≤ 4) (h : RfAt w g r) : Calls Tryd.prog 21 #[.pointer (some ⟨g, 0, none⟩)] w fun e w' => e = .returned (.int .i64 (endN (rfDone (endX r)))) ∧ RfAt w' g (endX r) ∧ Ch (· = g) w w' := by
  obtain ⟨-, -, -, -, -, -, -, c7⟩ := rf_cells h
  have f7 := blk_free h 7
  have H : Hid (RfAt (w.setCell ⟨g, 7, none⟩ (.bool true)) g (endX r)) := Lib.hid (blk_set h 7 _)
  have HC : Hid (Ch (· = g) w (w.setCell ⟨g, 7, none⟩ (.bool true))) := Lib.hid (ch_set1 w g 7 _)
  have HK := Lib.hid hk
  clear h hk
  go_enter Tryd.func21, Tryd.ntmps21
  go_wp2_with fail
  refine (xDone_calls _ g (endX r) HK.out H.out).mono ?_
  rintro e w' ⟨rfl, hb⟩
  have HB := Lib.hid hb
  clear hb
  cases hd : rfDone (endX r)
  · go_wp2_with fail
    go_ret
    exact ⟨by rw [hd]; rfl, H.out.below HB.out, HC.out.below HB.out⟩
  · go_wp2_with fail
    go_ret
    exact ⟨by rw [hd]; rfl, H.out.below HB.out, HC.out.below HB.out⟩

set_option maxHeartbeats 2000000 in
set_option maxRecDepth 100000 in
theorem xTake_ended (w : World) (g : Nat) (r : Rf) (he : r.ended = true) (h : RfAt w g r) (v : Value) :
    Calls Tryd.prog 39 #[.pointer (some ⟨g, 0, none⟩), v] w (RfP w g (r, [], 0, true)) := by
  obtain ⟨-, -, -, -, -, -, -, c7⟩ := rf_cells h
  rw [he] at c7
  have H := Lib.hid h
  clear h he
  unfold RfP
  go_enter Tryd.func39, Tryd.ntmps39
  go_wp2_with fail
  go_ret3
  exact ⟨none, 0, rfl, Bs.nil _, H.out, Ch.refl _ _⟩

set_option maxHeartbeats 2000000 in
set_option maxRecDepth 100000 in
theorem xTake_4 (w : World) (g : Nat) (r : Rf) (he : r.ended = false) (hk : r.k = 4) (h : RfAt w g r) (v : Value) :
    Calls Tryd.prog 39 #[.pointer (some ⟨g, 0, none⟩), v] w (RfP w g (r, [], 0, true)) := by
  obtain ⟨c0, -, -, -, -, -, -, c7⟩ := rf_cells h
  rw [he] at c7
  rw [hk] at c0
  have H := Lib.hid h
  clear h he hk
  unfold RfP
  go_enter Tryd.func39, Tryd.ntmps39
  go_wp2_with fail
  go_ret3
  exact ⟨none, 0, rfl, Bs.nil _, H.out, Ch.refl _ _⟩

theorem eight_set {w1 : World} {g : Nat} {a b c0 c1 c2 c3 c4 d : Value} {t : TypeId} (h : w1.heap[g]? = some (.cells #[a, b, c0, c1, c2, c3, c4, d] t (0, 0))) (v0 v1 v2 v3 v4 : Value) :
    (((((w1.setCell ⟨g, 2, none⟩ v0).setCell ⟨g, 3, none⟩ v1).setCell ⟨g, 4, none⟩ v2).setCell ⟨g, 5, none⟩ v3).setCell ⟨g, 6, none⟩ v4).heap[g]? = some (.cells #[a, b, v0, v1, v2, v3, v4, d] t (0, 0)) :=
  blk_set (blk_set (blk_set (blk_set (blk_set h 2 v0) 3 v1) 4 v2) 5 v3) 6 v4
theorem eight_ch (w1 : World) (g : Nat) (v0 v1 v2 v3 v4 : Value) :
    Ch (· = g) w1 (((((w1.setCell ⟨g, 2, none⟩ v0).setCell ⟨g, 3, none⟩ v1).setCell ⟨g, 4, none⟩ v2).setCell ⟨g, 5, none⟩ v3).setCell ⟨g, 6, none⟩ v4) :=
  Ch.set (S := (· = g)) (Ch.set (S := (· = g)) (Ch.set (S := (· = g)) (Ch.set (S := (· = g)) (Ch.set (S := (· = g)) (Ch.refl _ _) (.inl rfl) _) (.inl rfl) _) (.inl rfl) _) (.inl rfl) _) (.inl rfl) _
set_option maxHeartbeats 4000000 in
set_option maxRecDepth 100000 in
theorem xTake_2 (w : World) (g : Nat) (r : Rf) (a : Rd) (hi : RdI a) (hc : Cor a r.x) (he : r.ended = false) (hk : r.k = 2) (h : RfAt w g r) (ao : Option Addr) (l : List UInt8) (hl : l.length ≤ 1099511627776) (c : Nat) (hlc : l.length ≤ c) (hb : Bs w ao l) :
    Calls Tryd.prog 39 #[.pointer (some ⟨g, 0, none⟩), .slice ao l.length c] w (RfP w g ({ r with x := (rtakeA r.x l).1 }, (rtakeA r.x l).2)) := by
  obtain ⟨c0, -, c2, c3, c4, c5, c6, c7⟩ := rf_cells h
  rw [he] at c7
  rw [hk] at c0
  have HT := Lib.hid (rTake_calls w a r.x hi hc ao l hl c hlc hb)
  obtain ⟨⟨⟨ys, yd, yl, ym, yf⟩, p⟩, hq⟩ : ∃ q, rtakeA r.x l = q := ⟨_, rfl⟩
  rw [hq] at HT ⊢
  obtain ⟨k, left, ⟨xs, xd, xl, xm, xf⟩, ended⟩ := r
  dsimp only at *
  subst hk he
  have H := Lib.hid h
  unfold RR.v RtP at HT
  dsimp only at HT
  clear h hl hlc hb hi hc hq
  unfold RfP
  go_enter Tryd.func39, Tryd.ntmps39
  go_wp2_with fail
  refine HT.out.mono ?_
  rintro e w1 ⟨ov, rfl, ho, hb1⟩
  obtain ⟨a1, c1, rfl, hs1, -, hge, -⟩ := ho.bs'
  have HGE := Lib.hid hge
  have HS1 := Lib.hid hs1
  have HB1 := Lib.hid hb1
  have HGL := Lib.hid (lt_of_block H.out)
  have HZ := Lib.hid hb1.size
  unfold RR.v
  dsimp only
  clear hs1 hge ho hb1 c0 c2 c3 c4 c5 c6 c7 HT
  have hlt : g < w1.heap.size := by have := HGL.out; have := HZ.out; omega
  have hX : w1.heap[g]? = _ := (HB1.out.block _ HGL.out).trans H.out
  have f2 := blk_free hX 2
  have f3 := blk_free hX 3
  have f4 := blk_free hX 4
  have f5 := blk_free hX 5
  have f6 := blk_free hX 6
  obtain ⟨-, -, c2, c3, c4, c5, c6, -⟩ := rf_cells (show RfAt w1 g _ from hX)
  dsimp only at c2 c3 c4 c5 c6
  have hS := eight_set hX (.int .i64 ys) (.int .i64 yd) (.int .i64 yl) (.int .i64 ym) (.int .i64 yf)
  have hc := eight_ch w1 g (.int .i64 ys) (.int .i64 yd) (.int .i64 yl) (.int .i64 ym) (.int .i64 yf)
  obtain ⟨w2, hw2⟩ : ∃ w2, ((((w1.setCell ⟨g, 2, none⟩ (.int .i64 ys)).setCell ⟨g, 3, none⟩ (.int .i64 yd)).setCell ⟨g, 4, none⟩ (.int .i64 yl)).setCell ⟨g, 5, none⟩ (.int .i64 ym)).setCell ⟨g, 6, none⟩ (.int .i64 yf) = w2 := ⟨_, rfl⟩
  rw [hw2] at hS hc
  have HK : Hid (∀ o, Bs (w2.alloc o) a1 p.1 ∧ RfAt (w2.alloc o) g ⟨2, left, ⟨ys, yd, yl, ym, yf⟩, false⟩ ∧ Ch (· = g) w (w2.alloc o)) := Lib.hid (fun o =>
    ⟨HS1.out.ch (hc.alloc _) (by
      rintro b off h1 - rfl
      have := (HGE.out b off none h1).1
      have := HGL.out
      omega), (Below.heap_alloc w2 _ _ (lt_of_block hS)).trans hS, ((Ch.of_below HB1.out).trans hc).alloc _⟩)
  subst hw2
  clear hX hS hc
  go_wp2_with fail
  go_ret3
  exact ⟨a1, c1, rfl, HK.out _⟩

theorem RfAt.left {w : World} {g : Nat} {r : Rf} (h : RfAt w g r) (x : Int) : RfAt (w.setCell ⟨g, 1, none⟩ (.int .i64 x)) g { r with left := x } := blk_set h 1 _

set_option maxHeartbeats 2000000 in
set_option maxRecDepth 100000 in
theorem xTake_cut (w : World) (g : Nat) (r : Rf) (he : r.ended = false) (hk : r.k = 1) (hl0 : 0 ≤ r.left) (h : RfAt w g r) (ao : Option Addr) (l : List UInt8) (hlt : r.left < l.length) (_hl : l.length ≤ 1099511627776) (c : Nat) (hlc : l.length ≤ c) (hb : Bs w ao l) :
    Calls Tryd.prog 39 #[.pointer (some ⟨g, 0, none⟩), .slice ao l.length c] w (RfP w g ({ r with left := 0 }, l.take r.left.toNat, r.left.toNat, true)) := by
  obtain ⟨c0, c1, -, -, -, -, -, c7⟩ := rf_cells h
  have f1 := blk_free h 1
  rw [he] at c7
  rw [hk] at c0
  obtain ⟨n, hn⟩ : ∃ n : Nat, r.left = n := ⟨r.left.toNat, by omega⟩
  rw [hn] at c1 hlt
  rw [hn, Int.toNat_natCast]
  have hsl := fun W => run_sliceTo W ao l.length c n (by omega)
  have hnl : n < l.length := by omega
  have hz : wrap64 ((n : Int) - (n : Int)) = 0 := by rw [Int.sub_self]; exact IntWalk.wrap64_in _ (by omega)
  have H := Lib.hid h
  have HB : Hid (Bs (w.setCell ⟨g, 1, none⟩ (.int .i64 0)) ao (l.take n)) := Lib.hid ((hb.take n).ch (ch_set1 w g 1 _) (fun b off h1 h2 h3 => by
    rw [h1] at hb
    exact rf_ne (hb.take n) h2 h h3))
  have HL : Hid ((l.take n).length = n) := Lib.hid (by rw [List.length_take]; omega)
  clear h hb hl0 hn hlc _hl
  unfold RfP
  dsimp only
  rw [HL.out]
  go_enter Tryd.func39, Tryd.ntmps39
  go_wp2_with fail
  go_ret3
  exact ⟨ao, c, rfl, HB.out, H.out.left 0, ch_set1 w g 1 _⟩

set_option maxHeartbeats 2000000 in
set_option maxRecDepth 100000 in
theorem xTake_all (w : World) (g : Nat) (r : Rf) (he : r.ended = false) (hk4 : r.k = 1 ∨ r.k = 3) (h : RfAt w g r) (ao : Option Addr) (l : List UInt8) (hlt : r.k = 1 → ¬ r.left < l.length) (c : Nat) (hb : Bs w ao l) :
    Calls Tryd.prog 39 #[.pointer (some ⟨g, 0, none⟩), .slice ao l.length c] w (RfP w g ({ r with left := wrap64 (r.left - (l.length : Int)) }, l, l.length, true)) := by
  obtain ⟨c0, c1, -, -, -, -, -, c7⟩ := rf_cells h
  have f1 := blk_free h 1
  rw [he] at c7
  have H := Lib.hid h
  have HB : Hid (∀ v, Bs (w.setCell ⟨g, 1, none⟩ v) ao l) := Lib.hid (fun v => hb.ch (ch_set1 w g 1 _) (fun b off h1 h2 h3 => by
    rw [h1] at hb
    exact rf_ne hb h2 h h3))
  clear h hb
  unfold RfP
  dsimp only
  rcases hk4 with hk | hk
  · rw [hk] at c0
    have ht : decide (r.left < (l.length : Int)) = false := decide_eq_false (hlt hk)
    clear hlt hk
    go_enter Tryd.func39, Tryd.ntmps39
    go_wp2_with fail
    go_ret3
    exact ⟨ao, c, rfl, HB.out _, H.out.left _, ch_set1 w g 1 _⟩
  · rw [hk] at c0
    clear hlt hk
    go_enter Tryd.func39, Tryd.ntmps39
    go_wp2_with fail
    go_ret3
    exact ⟨ao, c, rfl, HB.out _, H.out.left _, ch_set1 w g 1 _⟩

theorem xTake_calls (w : World) (g : Nat) (r : Rf) (a : Fr) (hi : FrI a) (hc : FCor a r) (h : RfAt w g r) (ao : Option Addr) (l : List UInt8) (hl : l.length ≤ 1099511627776) (c : Nat) (hlc : l.length ≤ c) (hb : Bs w ao l) :
    Calls Tryd.prog 39 #[.pointer (some ⟨g, 0, none⟩), .slice ao l.length c] w (RfP w g (rfTake r l)) := by
  have hk := hi.k
  have hka := hc.k
  unfold rfTake
  cases he : r.ended with
  | true => rw [if_pos (.inl rfl)]; exact xTake_ended w g r he h _
  | false =>
    by_cases h4 : r.k = 4
    · rw [if_pos (.inr h4)]; exact xTake_4 w g r he h4 h _
    · rw [if_neg (by simp [h4])]
      by_cases h2 : r.k = 2
      · rw [if_pos h2]; have := xTake_2 w g r a.ch hi.ch hc.ch he h2 h ao l hl c hlc hb; rw [he] at this; exact this
      · rw [if_neg h2]
        by_cases h1 : r.k = 1 ∧ r.left < l.length
        · rw [if_pos h1]; have := xTake_cut w g r he h1.1 (by rw [hc.left (by omega)]; exact hi.left.1) h ao l h1.2 hl c hlc hb; rw [he] at this; exact this
        · rw [if_neg h1]
          have := xTake_all w g r he (by omega) h ao l (fun hk hlt => h1 ⟨hk, hlt⟩) c hb
          rw [he] at this; exact this

set_option maxHeartbeats 2000000 in
set_option maxRecDepth 100000 in
theorem xNew_no (w : World) (k n : Int) (h : newOk k n = false) : Calls Tryd.prog 16 #[.int .i64 k, .int .i64 n] w fun e w' => e = .returned (.tuple #[.pointer none, .bool false]) ∧ w = w' := by
  by_cases h1 : k < 1
  · have t1 : decide (k < (1 : Int)) = true := decide_eq_true h1
    clear h h1
    go_enter Tryd.func16, Tryd.ntmps16
    go_wp2_with fail
    go_ret2
    exact ⟨rfl, rfl⟩
  have t1 : decide (k < (1 : Int)) = false := decide_eq_false h1
  by_cases h2 : 4 < k
  · have t2 : decide ((4 : Int) < k) = true := decide_eq_true h2
    clear h h1 h2
    go_enter Tryd.func16, Tryd.ntmps16
    go_wp2_with fail
    go_ret2
    exact ⟨rfl, rfl⟩
  have t2 : decide ((4 : Int) < k) = false := decide_eq_false h2
  by_cases h3 : n < 0
  · have t3 : decide (n < (0 : Int)) = true := decide_eq_true h3
    clear h h1 h2 h3
    go_enter Tryd.func16, Tryd.ntmps16
    go_wp2_with fail
    go_ret2
    exact ⟨rfl, rfl⟩
  have t3 : decide (n < (0 : Int)) = false := decide_eq_false h3
  by_cases h4 : 1099511627776 < n
  · have t4 : decide ((1099511627776 : Int) < n) = true := decide_eq_true h4
    clear h h1 h2 h3 h4
    go_enter Tryd.func16, Tryd.ntmps16
    go_wp2_with fail
    go_ret2
    exact ⟨rfl, rfl⟩
  have t4 : decide ((1099511627776 : Int) < n) = false := decide_eq_false h4
  have h5 : ¬ k = 1 ∧ ¬ n = 0 := by
    unfold newOk at h
    rw [decide_eq_true (show 1 ≤ k by omega), decide_eq_true (show k ≤ 4 by omega), decide_eq_true (show 0 ≤ n by omega), decide_eq_true (show n ≤ 1099511627776 by omega)] at h
    simpa using h
  have t5 : (k != 1) = true := bne_iff_ne.2 h5.1
  have t6 : (n != 0) = true := bne_iff_ne.2 h5.2
  clear h h1 h2 h3 h4 h5
  go_enter Tryd.func16, Tryd.ntmps16
  go_wp2_with fail
  go_ret2
  exact ⟨rfl, rfl⟩

def xNewP (w : World) (k n : Int) (e : Ending) (w' : World) : Prop :=
  e = .returned (.tuple #[.pointer (some ⟨w.heap.size, 0, none⟩), .bool true]) ∧ RfAt w' w.heap.size (rfNew k n) ∧ Below w.heap.size w w'

set_option maxHeartbeats 2000000 in
set_option maxRecDepth 100000 in
theorem xNew_ok (w : World) (k n : Int) (h : newOk k n = true) : Calls Tryd.prog 16 #[.int .i64 k, .int .i64 n] w (xNewP w k n) := by
  obtain ⟨hk, hn, hkn⟩ := newOk_of h
  have t1 : decide (k < (1 : Int)) = false := decide_eq_false (by omega)
  have t2 : decide ((4 : Int) < k) = false := decide_eq_false (by omega)
  have t3 : decide (n < (0 : Int)) = false := decide_eq_false (by omega)
  have t4 : decide ((1099511627776 : Int) < n) = false := decide_eq_false (by omega)
  clear h hk hn
  unfold xNewP
  rcases hkn with rfl | rfl
  · clear t1 t2
    go_enter Tryd.func16, Tryd.ntmps16
    go_wp2_with fail
    go_ret2
    exact ⟨rfl, heap_alloc_new w _, (Below.refl _ w).alloc (Nat.le_refl _) _⟩
  · clear t3 t4
    cases hk1 : (k != 1)
    · go_enter Tryd.func16, Tryd.ntmps16
      go_wp2_with fail
      go_ret2
      exact ⟨rfl, heap_alloc_new w _, (Below.refl _ w).alloc (Nat.le_refl _) _⟩
    · go_enter Tryd.func16, Tryd.ntmps16
      go_wp2_with fail
      go_ret2
      exact ⟨rfl, heap_alloc_new w _, (Below.refl _ w).alloc (Nat.le_refl _) _⟩
end Go.Proofs.YteneioapchhehaaDoor
