/- ChunkTakes: the law's walk. -/
import Derived.Test.YtiaafndkbcpbdaaDoorRfK
import Derived.Test.YtiaafndkbcpbdaaDoorOpen
import Derived.Stop.LaidErr
import Derived.Deep.RegionHeld3
namespace Go.Proofs.YtiaafndkbcpbdaaDoor
open Go.RowKit

theorem BssT.below {w w' : World} {ao : Option Addr} {ls : List (Option Addr × List UInt8 × Nat)} (h : Bss w ao ls) (hb : Below w.heap.size w w') : Bss w' ao ls :=
  ⟨h.1, fun ad had j x hj => by
    obtain ⟨h1, h2, h3⟩ := h.2 ad had j x hj
    refine ⟨?_, h2.below hb, h3⟩
    rw [hb.cell (World.block_lt_of_cell? w _ h1)]
    exact h1⟩

theorem fiveT_ch (w1 : World) (g : Nat) (v0 v1 v2 v3 v4 : Value) :
    Ch (· = g) w1 (((((w1.setCell ⟨g, 0, none⟩ v0).setCell ⟨g, 1, none⟩ v1).setCell ⟨g, 2, none⟩ v2).setCell ⟨g, 3, none⟩ v3).setCell ⟨g, 4, none⟩ v4) :=
  Ch.set (S := (· = g)) (Ch.set (S := (· = g)) (Ch.set (S := (· = g)) (Ch.set (S := (· = g)) (Ch.set (S := (· = g)) (Ch.refl _ _) (.inl rfl) _) (.inl rfl) _) (.inl rfl) _) (.inl rfl) _) (.inl rfl) _

/-- one slice of those that came in -/
theorem Bss.nth {w : World} {ao : Option Addr} {ls : List (Option Addr × List UInt8 × Nat)} (h : Bss w ao ls) {k : Nat} (hk : k < ls.length) :
    ∃ b off bo l c, ao = some ⟨b, off, none⟩ ∧ ls[k]? = some (bo, l, c) ∧ w.cell? ⟨b, off + k, none⟩ = some (.slice bo l.length c) ∧ Bs w bo l ∧ l.length ≤ c ∧ l.length ≤ reachBytes := by
  obtain ⟨ad, had⟩ : ∃ ad, ao = some ad := by
    cases ao with
    | none => have := h.1 rfl; rw [this] at hk; simp at hk
    | some ad => exact ⟨ad, rfl⟩
  subst had
  obtain ⟨⟨bo, b, cb⟩, hx⟩ : ∃ x, ls[k]? = some x := ⟨_, List.getElem?_eq_getElem hk⟩
  obtain ⟨hcell, hbs, hbc, hbn, hbm⟩ := h.2 ad rfl k _ hx
  obtain ⟨bb, off, sp⟩ := ad
  have hsp : sp = none := by
    have := World.cell?_spot (h.2 _ rfl 0 _ (List.getElem?_eq_getElem (by omega))).1
    simpa [Addr.add] using this
  subst hsp
  rw [Addr.add_lit] at hcell
  exact ⟨bb, off, bo, b, cb, rfl, hx, hcell, hbs, hbc, hbm⟩

/-- the second loop's relation -/
def TakesRel (w : World) (g gx : Nat) (k : Nat) (wr : World) : Prop :=
  ∃ r x, RdI r ∧ Cor r x ∧ RdAt wr g r ∧ wr.heap[gx]? = some (.cells x.cs 28 (0, 0)) ∧ Below w.heap.size w wr

set_option maxHeartbeats 4000000 in
set_option maxRecDepth 100000 in
theorem Takes_calls (w : World) (hG : Gv w) (ao : Option Addr) (ls : List (Option Addr × List UInt8 × Nat)) (c : Nat) (hlc : ls.length ≤ c) (h1 : Bss w ao ls) (hr : ls.length ≤ reachBytes) :
    Calls Tryd.prog 3 #[.slice ao ls.length c] w fun e w' => e = .returned (.bool true) ∧ Below w.heap.size w w' := by
  have H1 := Lib.hid h1
  have HG := Lib.hid hG
  have HX := Lib.hid hG.lt
  have hrb : reachBytes ≤ 140737488355328 := by decide
  have HRB := Lib.hid hrb
  have HC : Hid (ls.length ≤ 140737488355328) := Lib.hid (Nat.le_trans hr hrb)
  clear h1 hG hlc hr hrb
  have et : errN true = 0 := rfl
  have ef : errN false = 2 := rfl
  go_enter Tryd.func3, Tryd.ntmps3
  go_wp2_with fail
  refine (wakes_calls _ HG.out).mono ?_
  rintro e w1 ⟨rfl, hb1⟩
  have HB1 := Lib.hid hb1
  clear hb1
  go_wp2_with fail
  go_loop [3, 21] (fun v3 v21 => ∃ k n : Nat, v21 = .int .i64 k ∧ v3 = .int .i64 n ∧ k ≤ ls.length ∧ n ≤ 2000 ∧ ∀ j x, j < k → ls[j]? = some x → x.2.1.length ≤ 2000) (fun _ v21 => ls.length - (intOf v21).toNat)
  case atStart => exact ⟨0, 0, rfl, rfl, Nat.zero_le _, Nat.zero_le _, fun j x h => by omega⟩
  case round =>
    obtain ⟨k, n, rfl, rfl, hk, hn, hall⟩ := hrel
    by_cases hkl : k < ls.length
    · obtain ⟨bb, off, bo, l, cb, rfl, hx, hcell, -, -, hbm⟩ := Bss.nth (BssT.below H1.out HB1.out) hkl
      have hrb := HRB.out
      have w1' : wrap64 ((n : Int) + ((l.length : Int) + 1)) = (n : Int) + ((l.length : Int) + 1) := IntWalk.wrap64_in _ (by omega)
      by_cases hbig : 2000 < n + (l.length + 1)
      · have t1 : decide ((2000 : Int) < (n : Int) + ((l.length : Int) + 1)) = true := decide_eq_true (by omega)
        have hbm : l.length ≤ 140737488355328 := Nat.le_trans hbm hrb
        clear hall hx hbig hk hrb
        go_wp2_with fail
        go_ret
        exact ⟨rfl, HB1.out⟩
      · have t1 : decide ((2000 : Int) < (n : Int) + ((l.length : Int) + 1)) = false := decide_eq_false (by omega)
        have HALL := Lib.hid hall
        have HXX := Lib.hid hx
        have HN : Hid (n + (l.length + 1) ≤ 2000) := Lib.hid (by omega)
        have HKL := Lib.hid hkl
        have HK2 : Hid (wrap64 ((k : Int) + 1) = ((k + 1 : Nat) : Int)) := Lib.hid (by rw [IntWalk.wrap64_in _ (by have := HC.out; omega)]; rfl)
        have hbm : l.length ≤ 140737488355328 := Nat.le_trans hbm hrb
        clear hall hx hbig hk hrb
        go_wp2_with fail
        go_round
        case rel =>
          refine ⟨k + 1, n + (l.length + 1), by rw [HK2.out], rfl, HKL.out, HN.out, fun j x hj hjx => ?_⟩
          by_cases hjk : j = k
          · subst hjk
            rw [HXX.out] at hjx
            cases hjx
            have := HN.out; dsimp only; omega
          · exact HALL.out j x (by omega) hjx
        case measure => have := HKL.out; rw [HK2.out]; simp [intOf]; omega
    · obtain rfl : k = ls.length := by omega
      have HALL := Lib.hid hall
      clear hall hk hn
      go_wp2_with fail
      refine (New_calls _).mono ?_
      rintro e w2 ⟨rfl, hr2, hb2⟩
      have HR2 := Lib.hid hr2
      have HZ1 := Lib.hid HB1.out.size
      have HB2 := Lib.hid (HB1.out.trans (hb2.mono HB1.out.size))
      have HZ2 := Lib.hid (lt_of_block hr2)
      clear hr2 hb2
      go_wp2_with fail
      go_loopw [38] (fun v38 wr => ∃ k : Nat, v38 = .int .i64 k ∧ k ≤ ls.length ∧ TakesRel w w1.heap.size w2.heap.size k wr) (fun v38 _ => ls.length - (intOf v38).toNat)
      case atStart => exact ⟨0, rfl, Nat.zero_le _, ⟨0, 0, 0, 0⟩, ⟨0, 0, 0, 0, 0⟩, RdI.zero, Cor.zero, HR2.out.below (by go_grown), heap_alloc_new w2 _, HB2.out.alloc (by have := HZ1.out; have := HZ2.out; omega) _⟩
      case round =>
        obtain ⟨k, rfl, hk, r, x, hi, hc, hrd, hxb, hb⟩ := hrel
        by_cases hkl : k < ls.length
        · obtain ⟨bb, off, bo, l, cb, rfl, hx, hcell, hbs, hbc, hbm⟩ := Bss.nth (BssT.below H1.out hb) hkl
          have hl2 : l.length ≤ 1099511627776 := by have := HALL.out k _ hkl hx; dsimp only at this; omega
          obtain ⟨hq1, hq2⟩ := cor_take hi hc l
          obtain ⟨q, hq⟩ : ∃ q, takeA r l = q := ⟨_, rfl⟩
          obtain ⟨y, p, hy⟩ : ∃ y p, rtakeA x l = (y, p) := ⟨_, _, rfl⟩
          have hqi : RdI q.1 := hq ▸ takeA_i hi l
          have hqe : q.2.2.1 ≤ l.length := hq ▸ (takeA_len hi l).2
          rw [hq, hy] at hq1 hq2
          dsimp only at hq1 hq2
          subst hq1
          have hne : w2.heap.size ≠ w1.heap.size := by have := HZ2.out; omega
          have HI := Lib.hid hqi
          have HCQ := Lib.hid hq2
          have HT := Lib.hid (Take_calls wr w1.heap.size r hi hrd ((HG.out.below hb).es) (Nat.lt_of_lt_of_le HX.out.2 HZ1.out) bo l hl2 cb hbc hbs)
          have HRT := Lib.hid (fun W (h : Bs W bo l) => rTake_calls W r x hi hc bo l hl2 cb hbc h)
          rw [hq] at HT
          rw [hy] at HRT
          have HXX := Lib.hid hx
          have HXB := Lib.hid hxb
          have HB := Lib.hid hb
          have HBS := Lib.hid hbs
          have HKL := Lib.hid hkl
          have HK2 : Hid (wrap64 ((k : Int) + 1) = ((k + 1 : Nat) : Int)) := Lib.hid (by rw [IntWalk.wrap64_in _ (by have := HC.out; omega)]; rfl)
          have hgl := lt_of_block hrd
          have HGL := Lib.hid hgl
          have HXL := Lib.hid (lt_of_block hxb)
          have hst := hq2.st
          obtain ⟨x0, x1, x2, x3, x4⟩ := x
          obtain ⟨y0, y1, y2, y3, y4⟩ := y
          dsimp only at hst
          subst hst
          obtain ⟨⟨e0, e1, e2, e3, e4⟩, f0, f1, f2, f3, f4⟩ := five (w1 := wr) hxb rfl
          dsimp only at e0 e1 e2 e3 e4
          clear hi hc hrd hxb hb hx hbs hbc hbm hl2 hqi hqe hq hy hq2 hk hkl hgl e0 e1 e2 e3 e4 f0 f1 f2 f3 f4
          go_wp2_with fail
          refine HT.out.mono ?_
          rintro e w3 ⟨ov3, rfl, ho3, hr3, hc3⟩
          obtain ⟨a3, c3, rfl, hs3, -, hge3, -⟩ := ho3.bs'
          have HGE3 := Lib.hid hge3
          clear hge3
          have hx3 := (hc3.block w2.heap.size HXL.out hne).trans HXB.out
          obtain ⟨⟨e0, e1, e2, e3, e4⟩, f0, f1, f2, f3, f4⟩ := five (w1 := w3) hx3 rfl
          dsimp only at e0 e1 e2 e3 e4
          have HS3 := Lib.hid hs3
          have HR3 := Lib.hid hr3
          have HX3 := Lib.hid hx3
          have HB3 := Lib.hid (Below.ch HB.out hc3 (fun k hk => Nat.le_trans HZ1.out (Nat.le_of_eq hk.symm)) HB.out.size)
          obtain ⟨_, _, bo', l', cb', -, hx', -, hbs', -⟩ := Bss.nth (BssT.below H1.out HB3.out) HKL.out
          rw [HXX.out] at hx'
          cases hx'
          have HBS3 := Lib.hid hbs'
          clear hbs' hx3 hs3 hc3 hr3
          unfold RR.v at HRT
          dsimp only at HRT
          go_wp2_with fail
          refine (HRT.out w3 HBS3.out).mono ?_
          rintro e w4 ⟨ov4, he, ho4, hb4⟩
          unfold RR.v at he
          dsimp only at he
          subst he
          obtain ⟨a4, c4, rfl, hs4, -, hge4, -⟩ := ho4.bs'
          have HGE4 := Lib.hid hge4
          clear hge4
          dsimp only at hs4
          have HS4 := Lib.hid hs4
          have HB4 := Lib.hid (HB3.out.trans (hb4.mono HB3.out.size))
          have HR4 := Lib.hid (HR3.out.below hb4)
          have HS34 := Lib.hid (HS3.out.below hb4)
          have HX4 := Lib.hid ((hb4.block _ (lt_of_block HX3.out)).trans HX3.out)
          clear e0 e1 e2 e3 e4 f0 f1 f2 f3 f4
          obtain ⟨⟨e0, e1, e2, e3, e4⟩, f0, f1, f2, f3, f4⟩ := five (w1 := w4) HX4.out rfl
          dsimp only at e0 e1 e2 e3 e4
          have hlt4 : w2.heap.size < w4.heap.size := lt_of_block HX4.out
          clear hs4 hb4 ho4
          go_wp2_with fail
          have hch : Ch (· = w2.heap.size) w4 ((((((w4.setCell ⟨w2.heap.size, 0, none⟩ (.int .i64 q.1.st)).setCell ⟨w2.heap.size, 1, none⟩ (.int .i64 y1)).setCell ⟨w2.heap.size, 2, none⟩ (.int .i64 y2)).setCell ⟨w2.heap.size, 3, none⟩ (.int .i64 y3)).setCell ⟨w2.heap.size, 4, none⟩ (.int .i64 y4)).alloc
            (.cells #[.int .i64 q.1.st, .int .i64 y1, .int .i64 y2, .int .i64 y3, .int .i64 y4] 28)) := (fiveT_ch _ _ _ _ _ _ _).alloc _
          have hx6 : ((((((w4.setCell ⟨w2.heap.size, 0, none⟩ (.int .i64 q.1.st)).setCell ⟨w2.heap.size, 1, none⟩ (.int .i64 y1)).setCell ⟨w2.heap.size, 2, none⟩ (.int .i64 y2)).setCell ⟨w2.heap.size, 3, none⟩ (.int .i64 y3)).setCell ⟨w2.heap.size, 4, none⟩ (.int .i64 y4)).alloc
            (.cells #[.int .i64 q.1.st, .int .i64 y1, .int .i64 y2, .int .i64 y3, .int .i64 y4] 28)).heap[w2.heap.size]? = some (.cells #[.int .i64 q.1.st, .int .i64 y1, .int .i64 y2, .int .i64 y3, .int .i64 y4] 28 (0, 0)) := by
            rw [Below.heap_alloc _ _ _ (by simpa [World.setCell] using hlt4)]
            exact fiveT_set HX4.out _ _ _ _ _
          generalize ((((((w4.setCell ⟨w2.heap.size, 0, none⟩ (.int .i64 q.1.st)).setCell ⟨w2.heap.size, 1, none⟩ (.int .i64 y1)).setCell ⟨w2.heap.size, 2, none⟩ (.int .i64 y2)).setCell ⟨w2.heap.size, 3, none⟩ (.int .i64 y3)).setCell ⟨w2.heap.size, 4, none⟩ (.int .i64 y4)).alloc
            (.cells #[.int .i64 q.1.st, .int .i64 y1, .int .i64 y2, .int .i64 y3, .int .i64 y4] 28)) = w6 at hch hx6 ⊢
          have HX6 := Lib.hid hx6
          have HR6 := Lib.hid (show RdAt w6 w1.heap.size q.1 from (hch.block _ (lt_of_block HR4.out) (fun e => hne e.symm)).trans HR4.out)
          have hs46 : Bs w6 a4 q.2.1 := HS4.out.ch hch (fun b off hb _ hk => by subst hb; have := (HGE4.out b off none rfl).1; have := lt_of_block HX3.out; omega)
          have hs36 : Bs w6 a3 q.2.1 := HS34.out.ch hch (fun b off hb _ hk => by subst hb; have := (HGE3.out b off none rfl).1; have := HXL.out; omega)
          have HB6 := Lib.hid (Below.ch HB4.out hch (fun k hk => by have := HZ1.out; have := HZ2.out; omega) HB4.out.size)
          have HSAME := Lib.hid (fun W (h : Below w6.heap.size w6 W) => same_calls W a3 a4 q.2.1 q.2.1 c3 c4 (hs36.below h) (hs46.below h))
          have HDONE := Lib.hid (fun W (h : Below w6.heap.size w6 W) => Done_calls W w1.heap.size q.1 (HR6.out.below h))
          have HRD := Lib.hid (fun W => rDone_calls W ⟨q.1.st, y1, y2, y3, y4⟩)
          unfold RR.v at HRD
          dsimp only at HRD
          have hsm : (q.2.1 == q.2.1) = true := beq_self_eq_true _
          rw [hsm] at HSAME
          clear hch hx6 hs46 hs36 hlt4 e0 e1 e2 e3 e4 f0 f1 f2 f3 f4 hsm
          obtain ⟨⟨e0, e1, e2, e3, e4⟩, -⟩ := five (w1 := w6) HX6.out rfl
          go_region_held3 (fun w' => w'.cell? ⟨w2.heap.size, 0, none⟩ = some (.int .i64 q.1.st) ∧ w'.cell? ⟨w2.heap.size, 1, none⟩ = some (.int .i64 y1) ∧ w'.cell? ⟨w2.heap.size, 2, none⟩ = some (.int .i64 y2) ∧ w'.cell? ⟨w2.heap.size, 3, none⟩ = some (.int .i64 y3) ∧ w'.cell? ⟨w2.heap.size, 4, none⟩ = some (.int .i64 y4))
            (first | go_keep | exact ⟨HC7.out.1, HC7.out.2.1, HC7.out.2.2.1, HC7.out.2.2.2.1, HC7.out.2.2.2.2⟩)
            (first
              | (go_at_call 14; with_reducible refine (HSAME.out _ (by first | exact Below.refl _ _ | assumption | go_grown)).mono ?_; rintro e w' ⟨rfl, rfl⟩)
              | (go_at_call 15; with_reducible refine (HDONE.out _ (by first | exact Below.refl _ _ | assumption | go_grown)).mono ?_; rintro e w' ⟨rfl, rfl⟩)
              | (go_at_call 16; refine (HRD.out _).mono ?_; rintro e w7 ⟨rfl, hb7⟩; have HC7 := Lib.hid (five (w1 := w7) HX6.out (hb7.block _ (lt_of_block HX6.out))).1; have HB7 := Lib.hid (show Below w6.heap.size w6 w7 from ((Below.refl w6.heap.size w6).drew).trans hb7); clear hb7))
          clear e0 e1 e2 e3 e4 HSAME HDONE HRD HT HRT
          have hx7 := (HB7.out.block _ (lt_of_block HX6.out)).trans HX6.out
          have HREL := Lib.hid (show TakesRel w w1.heap.size w2.heap.size (k + 1) w7 from ⟨q.1, ⟨q.1.st, y1, y2, y3, y4⟩, HI.out, HCQ.out, HR6.out.below HB7.out, hx7, HB6.out.trans (HB7.out.mono HB6.out.size)⟩)
          clear hx7
          go_wp2_with fail
          go_roundw
          case rel => exact ⟨k + 1, by rw [HK2.out], HKL.out, HREL.out⟩
          case measure => have := HKL.out; rw [HK2.out]; simp [intOf]; omega
        · obtain rfl : k = ls.length := by omega
          have HB := Lib.hid hb
          clear hi hc hrd hxb hb hk
          go_wp2_with fail
          go_ret
          exact ⟨rfl, HB.out⟩
end Go.Proofs.YtiaafndkbcpbdaaDoor
