/- The reference of chapter 10: Take. -/
import Derived.Test.YteneioapchhehaaDoorRfJ
import Derived.Stop.LaidErr
import Derived.Deep.RegionHeld3
namespace Go.Proofs.YteneioapchhehaaDoor
open Go.RowKit

def RR.cs (x : RR) : Array Value := #[.int .i64 x.st, .int .i64 x.dg, .int .i64 x.ln, .int .i64 x.mn, .int .i64 x.lf]
def RtP (w : World) (q : RR × List UInt8 × Nat × Bool) (e : Ending) (w' : World) : Prop :=
  ∃ ov, e = .returned (.tuple #[q.1.v, ov, .int .i64 q.2.2.1, .int .i64 (errN q.2.2.2)]) ∧ Ow w' w.heap.size ov q.2.1 ∧ Below w.heap.size w w'

set_option maxHeartbeats 4000000 in
set_option maxRecDepth 100000 in
theorem rTake_broken (w : World) (x : RR) (hx : x.st = 11) (v : Value) : Calls Tryd.prog 57 #[x.v, v] w (RtP w (x, [], 0, false)) := by
  obtain ⟨st, dg, ln, mn, lf⟩ := x
  dsimp only at hx
  subst hx
  unfold RR.v RtP
  dsimp only
  go_enter Tryd.func57, Tryd.ntmps57
  (first | go_wp2_with fail | fail)
  go_returns
  exact ⟨_, rfl, Ow.nil _ _, by go_grown⟩

theorem fiveT_set {w1 : World} {g : Nat} {a b c d e : Value} {t : TypeId} (h : w1.heap[g]? = some (.cells #[a, b, c, d, e] t (0, 0))) (v0 v1 v2 v3 v4 : Value) :
    (((((w1.setCell ⟨g, 0, none⟩ v0).setCell ⟨g, 1, none⟩ v1).setCell ⟨g, 2, none⟩ v2).setCell ⟨g, 3, none⟩ v3).setCell ⟨g, 4, none⟩ v4).heap[g]? = some (.cells #[v0, v1, v2, v3, v4] t (0, 0)) :=
  blk_set (blk_set (blk_set (blk_set (blk_set h 0 v0) 1 v1) 2 v2) 3 v3) 4 v4
theorem fiveT_ne {w1 : World} {g k : Nat} (hne : g ≠ k) (v0 v1 v2 v3 v4 : Value) :
    (((((w1.setCell ⟨g, 0, none⟩ v0).setCell ⟨g, 1, none⟩ v1).setCell ⟨g, 2, none⟩ v2).setCell ⟨g, 3, none⟩ v3).setCell ⟨g, 4, none⟩ v4).heap[k]? = w1.heap[k]? := by
  rw [Below.heap_setCell _ _ _ _ hne.symm, Below.heap_setCell _ _ _ _ hne.symm, Below.heap_setCell _ _ _ _ hne.symm, Below.heap_setCell _ _ _ _ hne.symm, Below.heap_setCell _ _ _ _ hne.symm]

theorem five_of {W w1 : World} {k : Nat} (hb : Below W.heap.size W w1) (h : W.heap[k]? = some (.cells #[Value.int IntKind.i64 0, Value.int IntKind.i64 0, Value.int IntKind.i64 0, Value.int IntKind.i64 0, Value.int IntKind.i64 0] 78 (0, 0))) :
    (w1.cell? ⟨k, 0, none⟩ = some (.int .i64 0) ∧ w1.cell? ⟨k, 1, none⟩ = some (.int .i64 0) ∧ w1.cell? ⟨k, 2, none⟩ = some (.int .i64 0) ∧ w1.cell? ⟨k, 3, none⟩ = some (.int .i64 0) ∧ w1.cell? ⟨k, 4, none⟩ = some (.int .i64 0)) ∧
    (w1.frozen? ⟨k, 0, none⟩ = false ∧ w1.frozen? ⟨k, 1, none⟩ = false ∧ w1.frozen? ⟨k, 2, none⟩ = false ∧ w1.frozen? ⟨k, 3, none⟩ = false ∧ w1.frozen? ⟨k, 4, none⟩ = false) :=
  five h (hb.block k (lt_of_block h))

theorem bcell1 {W w1 : World} (hb : Below W.heap.size W w1) : (∀ b o, b < W.heap.size → w1.cell? ⟨b, o, none⟩ = W.cell? ⟨b, o, none⟩) ∧ (∀ b o, b < W.heap.size → w1.frozen? ⟨b, o, none⟩ = W.frozen? ⟨b, o, none⟩) :=
  ⟨fun b o h => hb.cell (p := ⟨b, o, none⟩) h, fun b o h => hb.frozen (p := ⟨b, o, none⟩) h⟩

theorem rt_next {r : Rd} {x : RR} (hi : RdI r) (hr : r.st ≤ 10) (hc : Cor r x) (h10 : ¬ x.st = 10) (c : UInt8) (hok : (stepR x c.toNat).2.2 = true) : ∃ r', RdI r' ∧ r'.st ≤ 10 ∧ Cor r' (stepR x c.toNat).1 := by
  have hx := hc.st
  by_cases h3 : r.st = 3
  · exact ⟨dataS r, hi.data h3, by unfold dataS; dsimp only; split <;> omega, (cor_data hi hc h3 c.toNat).2.2⟩
  · obtain ⟨t1, t2, t3⟩ := cor_step hi hc ⟨by omega, h3⟩ c.toNat
    rw [t1] at hok
    exact ⟨_, hi.take _ hok, hi.take_st _ hr hok, t3 hok⟩

/-- the loop's relation -/
def RtRel (w : World) (l : List UInt8) (q : RR × List UInt8 × Nat × Bool) (k : Nat) (vo : Value) (wr : World) : Prop :=
  ∃ r x out, k ≤ l.length ∧ RdI r ∧ r.st ≤ 10 ∧ Cor r x ∧ wr.heap[w.heap.size]? = some (.cells x.cs 78 (0, 0)) ∧ wr.heap[w.heap.size + 1]? = some (.cells #[.int .i64 0, .int .i64 0, .int .i64 0, .int .i64 0, .int .i64 0] 78 (0, 0)) ∧
    Ow wr (w.heap.size + 2) vo out ∧ out.length ≤ k ∧ Below w.heap.size w wr ∧ w.heap.size + 2 ≤ wr.heap.size ∧ runR x (l.drop k) out k = q

set_option maxHeartbeats 8000000 in
set_option maxRecDepth 100000 in
theorem rTake_run (w : World) (r : Rd) (x : RR) (hi : RdI r) (hr : r.st ≤ 10) (hc : Cor r x) (ao : Option Addr) (l : List UInt8) (hl : l.length ≤ 1099511627776) (c : Nat) (hlc : l.length ≤ c) (hb : Bs w ao l) :
    Calls Tryd.prog 57 #[x.v, .slice ao l.length c] w (RtP w (runR x l [] 0)) := by
  have hx := hc.st
  have hne : (x.st == 11) = false := beq_eq_false_iff_ne.2 (by omega)
  obtain ⟨q, hq⟩ : ∃ q, runR x l [] 0 = q := ⟨_, rfl⟩
  have HR : Hid (∀ wr, wr.heap[w.heap.size]? = some (.cells x.cs 78 (0, 0)) → wr.heap[w.heap.size + 1]? = some (.cells #[.int .i64 0, .int .i64 0, .int .i64 0, .int .i64 0, .int .i64 0] 78 (0, 0)) → Below w.heap.size w wr → w.heap.size + 2 ≤ wr.heap.size → RtRel w l q 0 (.slice none 0 0) wr) :=
    Lib.hid (fun wr h1 h2 h3 h4 => ⟨r, x, [], Nat.zero_le _, hi, hr, hc, h1, h2, Ow.nil _ _, Nat.le_refl _, h3, h4, by rw [List.drop_zero]; exact hq⟩)
  rw [hq]
  have HB := Lib.hid hb
  clear hi hr hc hb hx hq
  obtain ⟨st, dg, ln, mn, lf⟩ := x
  dsimp only at hne
  unfold RR.v
  dsimp only
  go_enter Tryd.func57, Tryd.ntmps57
  go_wp2_with fail
  go_loopw [8, 9] (fun vo va wr => ∃ k : Nat, va = .int .i64 k ∧ RtRel w l q k vo wr) (fun _ va _ => l.length - (intOf va).toNat)
  case atStart => exact ⟨0, rfl, HR.out _ ((Below.heap_alloc (w.alloc (.cells #[.int .i64 st, .int .i64 dg, .int .i64 ln, .int .i64 mn, .int .i64 lf] 78)) (.cells #[.int .i64 0, .int .i64 0, .int .i64 0, .int .i64 0, .int .i64 0] 78) _ (by simp)).trans (heap_alloc_new w _)) (by have := heap_alloc_new (w.alloc (.cells #[.int .i64 st, .int .i64 dg, .int .i64 ln, .int .i64 mn, .int .i64 lf] 78)) (.cells #[.int .i64 0, .int .i64 0, .int .i64 0, .int .i64 0, .int .i64 0] 78); simpa using this) (by go_grown) (by simp)⟩
  case round =>
    obtain ⟨k, rfl, r1, x1, out, hk, hi, hr, hc, h2, h4, ho, hol, hbl, hsz, hq⟩ := hrel
    clear HR
    obtain ⟨xs, xd, xl, xm, xf⟩ := x1
    have hxs : xs = r1.st := hc.st
    unfold RR.cs at h2
    dsimp only at h2
    obtain ⟨⟨e0, e1, e2, e3, e4⟩, f0, f1, f2, f3, f4⟩ := five (w1 := wr) h2 rfl
    obtain ⟨⟨d0, d1, d2, d3, d4⟩, g0, g1, g2, g3, g4⟩ := five (w1 := wr) h4 rfl
    have hgg : w.heap.size ≠ w.heap.size + 1 := by omega
    by_cases hkl : k < l.length
    · by_cases h10 : xs = 10
      · subst h10
        have HO := Lib.hid ho
        have HQ := Lib.hid (show q = (⟨10, xd, xl, xm, xf⟩, out, k, true) from by rw [← hq, List.drop_eq_getElem_cons hkl, runR, if_pos rfl])
        have HBL := Lib.hid hbl
        have H4 := Lib.hid h4
        clear ho hq hbl h2 h4 hi hr hc hol hsz hxs
        (first | go_wp2_with fail | fail)
        have h5 := fiveT_set H4.out (.int .i64 10) (.int .i64 xd) (.int .i64 xl) (.int .i64 xm) (.int .i64 xf)
        have k0 := (blk_cell h5 0).trans rfl
        have k1 := (blk_cell h5 1).trans rfl
        have k2 := (blk_cell h5 2).trans rfl
        have k3 := (blk_cell h5 3).trans rfl
        have k4 := (blk_cell h5 4).trans rfl
        refine bodyPost_ret (by simp [results, Tryd.results57, go_sem, k0, k1, k2, k3, k4]; try rfl) rfl ?_
        have hb := HBL.out
        refine ⟨_, by rw [HQ.out]; rfl, by rw [HQ.out]; exact (RowO.keep HO.out fun k hk => fiveT_ne (by have := (HO.out.ge k hk).1; omega) _ _ _ _ _).mono (by omega), by go_grown⟩
      · have hne10 : (xs == 10) = false := beq_eq_false_iff_ne.2 h10
        obtain ⟨b, off, hao⟩ := HB.out.some_of (by omega)
        subst hao
        have hbs := HB.out.below hbl
        have hcell := hbs.cell k hkl
        obtain ⟨b0, hb0⟩ : ∃ b0, l[k] = b0 := ⟨_, rfl⟩
        rw [hb0] at hcell
        have hxi := hc.xi hi (by omega)
        have hST := Lib.hid (fun W => rstep_calls hxi (b0.toNat : Int) (by have := b0.toNat_lt; omega) W)
        obtain ⟨⟨y, dt, ok⟩, hy⟩ : ∃ y, stepR ⟨xs, xd, xl, xm, xf⟩ (b0.toNat : Int) = y := ⟨_, rfl⟩
        rw [hy] at hST
        have hq2 := hq
        rw [List.drop_eq_getElem_cons hkl, runR, if_neg (show ¬ xs = 10 from h10), hb0, hy] at hq2
        dsimp only at hq2
        have H2 := Lib.hid h2
        have H4 := Lib.hid h4
        have HO := Lib.hid ho
        have HBL := Lib.hid hbl
        have HSZ := Lib.hid hsz
        have HQ := Lib.hid hq2
        have HREL : Hid (ok = true → ∀ w' v, w'.heap[w.heap.size]? = some (.cells y.cs 78 (0, 0)) → w'.heap[w.heap.size + 1]? = some (.cells #[.int .i64 0, .int .i64 0, .int .i64 0, .int .i64 0, .int .i64 0] 78 (0, 0)) →
            Ow w' (w.heap.size + 2) v (if dt = true then out ++ [b0] else out) → Below w.heap.size w w' → w.heap.size + 2 ≤ w'.heap.size → RtRel w l q (k + 1) v w') := Lib.hid (fun hk1 w' v p1 p2 p3 p4 p5 => by
          subst hk1
          obtain ⟨r', i1, i2, i3⟩ := rt_next hi hr hc h10 b0 (by rw [hy])
          rw [hy] at i3
          exact ⟨r', y, _, hkl, i1, i2, i3, p1, p2, p3, by split <;> (try rw [List.length_append, List.length_singleton]) <;> omega, p4, p5, hq2⟩)
        have HK2 : Hid (wrap64 ((k : Int) + 1) = ((k + 1 : Nat) : Int)) := Lib.hid (by rw [IntWalk.wrap64_in _ (by omega)]; rfl)
        obtain ⟨ys, yd, yl, ym, yf⟩ := y
        unfold StP RR.v at hST
        dsimp only at hST
        have hkc : ¬ c < k := by omega
        have hlw : w.heap.size < wr.heap.size := lt_of_block h2
        have hlb : b < wr.heap.size := World.block_lt_of_cell? wr _ hcell
        have hn1 : wr.heap.size ≠ w.heap.size := by omega
        have hn2 : wr.heap.size ≠ b := by omega
        clear hq hq2 h2 h4 ho hbl hbs hxi hy hxs
        go_wp2_with fail
        go_region_held3 (fun w' => w'.cell? ⟨w.heap.size, 0, none⟩ = some (.int .i64 xs) ∧ w'.cell? ⟨w.heap.size, 1, none⟩ = some (.int .i64 xd) ∧ w'.cell? ⟨w.heap.size, 2, none⟩ = some (.int .i64 xl) ∧ w'.cell? ⟨w.heap.size, 3, none⟩ = some (.int .i64 xm) ∧ w'.cell? ⟨w.heap.size, 4, none⟩ = some (.int .i64 xf) ∧ w'.cell? ⟨b, off + k, none⟩ = some (bv b0))
          (go_keep)
          (first | (go_at_call 74; refine (hST.out _).mono ?_; rintro e w1 ⟨rfl, hb1⟩; have HW1 := Lib.hid (show Below wr.heap.size wr w1 from Below.trans (by go_grown) (hb1.mono (by simp))); obtain ⟨⟨c0, c1, c2, c3, c4⟩, -⟩ := five (w1 := w1) H2.out (HW1.out.block _ hlw); have c5 := (HW1.out.cell (p := ⟨b, off + k, none⟩) hlb).trans hcell; have hcN := fun o => (bcell1 hb1).1 wr.heap.size o; have hfN := fun o => (bcell1 hb1).2 wr.heap.size o; have hz1 : wr.heap.size ≤ w1.heap.size := HW1.out.size; have HBK := Lib.hid hb1; clear hb1))
        · have hN := heap_alloc_new w1 (.cells #[.int .i64 ys, .int .i64 yd, .int .i64 yl, .int .i64 ym, .int .i64 yf] 78)
          have hX : (w1.alloc (.cells #[.int .i64 ys, .int .i64 yd, .int .i64 yl, .int .i64 ym, .int .i64 yf] 78)).heap[w.heap.size]? = _ := (Below.heap_alloc _ _ _ (by omega)).trans ((HW1.out.block _ hlw).trans H2.out)
          have hF : (w1.alloc (.cells #[.int .i64 ys, .int .i64 yd, .int .i64 yl, .int .i64 ym, .int .i64 yf] 78)).heap[w.heap.size + 1]? = _ := (Below.heap_alloc _ _ _ (by have := lt_of_block H4.out; omega)).trans ((HW1.out.block _ (lt_of_block H4.out)).trans H4.out)
          have hW : Below wr.heap.size wr (w1.alloc (.cells #[.int .i64 ys, .int .i64 yd, .int .i64 yl, .int .i64 ym, .int .i64 yf] 78)) := HW1.out.alloc hz1 _
          have hge := hz1
          generalize (w1.alloc (.cells #[.int .i64 ys, .int .i64 yd, .int .i64 yl, .int .i64 ym, .int .i64 yf] 78)) = w2 at hN hX hF hW ⊢
          generalize w1.heap.size = nb at hN hge ⊢
          have hXw : w.heap.size ≠ nb := by omega
          have hFw : w.heap.size + 1 ≠ nb := by have := lt_of_block H4.out; omega
          have hcd : w2.cell? ⟨b, off + k, none⟩ = some (bv b0) := (hW.cell (p := ⟨b, off + k, none⟩) hlb).trans hcell
          have HB2 := Lib.hid (HBL.out.trans (hW.mono HBL.out.size))
          have HW2 := Lib.hid hW
          have HFF := Lib.hid hF
          have HXX := Lib.hid hX
          have HNN := Lib.hid hN
          have HGE := Lib.hid hge
          have HL4 := Lib.hid (lt_of_block H4.out)
          clear c0 c1 c2 c3 c4 c5 hcN hfN hz1 HBK e0 e1 e2 e3 e4 f0 f1 f2 f3 f4 d0 d1 d2 d3 d4 g0 g1 g2 g3 g4 hcell
          obtain ⟨⟨e0, e1, e2, e3, e4⟩, f0, f1, f2, f3, f4⟩ := five (w1 := w2) hX rfl
          obtain ⟨⟨d0, d1, d2, d3, d4⟩, g0, g1, g2, g3, g4⟩ := five (w1 := w2) hF rfl
          obtain ⟨⟨n0, n1, n2, n3, n4⟩, m0, m1, m2, m3, m4⟩ := five (w1 := w2) hN rfl
          clear hX hF hN hW hge
          cases ok with
          | false =>
            go_wp2_with fail
            have h4' : (w2.setCell ⟨w.heap.size, 0, none⟩ (.int .i64 11)).heap[w.heap.size + 1]? = _ := (Below.heap_setCell _ _ _ _ (by simp)).trans HFF.out
            have h5 := fiveT_set h4' (.int .i64 11) (.int .i64 xd) (.int .i64 xl) (.int .i64 xm) (.int .i64 xf)
            have k0 := (blk_cell h5 0).trans rfl
            have k1 := (blk_cell h5 1).trans rfl
            have k2 := (blk_cell h5 2).trans rfl
            have k3 := (blk_cell h5 3).trans rfl
            have k4 := (blk_cell h5 4).trans rfl
            refine bodyPost_ret (by simp [results, Tryd.results57, go_sem, k0, k1, k2, k3, k4]; try rfl) rfl ?_
            have hq3 : q = (⟨11, xd, xl, xm, xf⟩, [], k, false) := HQ.out.symm
            have hb := HB2.out
            refine ⟨_, by rw [hq3]; rfl, by rw [hq3]; exact Ow.nil _ _, ((((((hb.setCell (by simp) _).setCell (by simp) _).setCell (by simp) _).setCell (by simp) _).setCell (by simp) _).setCell (by simp) _)⟩
          | true =>
            have hREL := HREL.out rfl
            clear HREL
            have HO2 := Lib.hid (Ow.below HO.out HW2.out)
            have HGO := Lib.hid HO.out.ge
            cases dt with
            | false =>
              simp only [Bool.false_eq_true, if_false] at hREL
              have HREL := Lib.hid hREL
              clear hREL
              go_wp2_with fail
              have hfin := HREL.out (((((w2.setCell ⟨w.heap.size, 0, none⟩ (.int .i64 ys)).setCell ⟨w.heap.size, 1, none⟩ (.int .i64 yd)).setCell ⟨w.heap.size, 2, none⟩ (.int .i64 yl)).setCell ⟨w.heap.size, 3, none⟩ (.int .i64 ym)).setCell ⟨w.heap.size, 4, none⟩ (.int .i64 yf)) u8 (fiveT_set HXX.out _ _ _ _ _) ((fiveT_ne (by simp) _ _ _ _ _).trans HFF.out)
                (RowO.keep HO2.out fun k hk => fiveT_ne (by have := (HGO.out k hk).1; omega) _ _ _ _ _) (((((HB2.out.setCell (by simp) _).setCell (by simp) _).setCell (by simp) _).setCell (by simp) _).setCell (by simp) _) (by simp [World.setCell]; have := HW2.out.size; have := HSZ.out; omega)
              have HFIN := Lib.hid hfin
              clear hfin
              go_roundw
              case rel => exact ⟨k + 1, by first | rfl | rw [HK2.out], HFIN.out⟩
              case measure => simp [intOf]; omega
            | true =>
              simp only [if_true] at hREL
              have HREL := Lib.hid hREL
              clear hREL
              have HOA := Lib.hid (fun o => RowO.alloc HO2.out o)
              have HS1 : Hid (out.length + 1 ≤ 70368744177664) := Lib.hid (by omega)
              have HBASE := Lib.hid (show ∀ o, w.heap.size + 2 ≤ (w2.alloc o).heap.size from fun o => by have := HW2.out.size; have := HSZ.out; simp; omega)
              go_wp2_with (first
                | (at_builtin; refine wp_app rfl _ _ rfl (w.heap.size + 2) u8 out rfl (HOA.out _) (some ⟨w2.heap.size, 0, none⟩) 1 1 rfl [b0] rfl (Bs.of_block (heap_alloc_new w2 _)) nofun HS1.out (HBASE.out _) ?_; intro v3 w3 hown hgr hal
                   have HB3 := Lib.hid (Below.own (HB2.out.alloc HB2.out.size _) (HOA.out _) hgr (by omega))
                   have HO3 := Lib.hid hown
                   have HX3 := Lib.hid ((hgr.block w.heap.size (by have := HBASE.out (.cells #[bv b0] 5); simp at this ⊢; omega) (fun e => by have := (HGO.out _ e.symm).1; omega)).trans ((Below.heap_alloc w2 _ _ (by have := HW2.out.size; omega)).trans HXX.out))
                   have HF3 := Lib.hid ((hgr.block (w.heap.size + 1) (by have := HBASE.out (.cells #[bv b0] 5); simp at this ⊢; omega) (fun e => by have := (HGO.out _ e.symm).1; omega)).trans ((Below.heap_alloc w2 _ _ (by have := HW2.out.size; have := HL4.out; omega)).trans HFF.out))
                   have HN3 := Lib.hid ((hgr.block nb (by have := lt_of_block HNN.out; simp; omega) (fun e => by have := (HGO.out _ e.symm).2; have := HGE.out; omega)).trans ((Below.heap_alloc w2 _ _ (by have := lt_of_block HNN.out; omega)).trans HNN.out))
                   have HSZ3 := Lib.hid (show w.heap.size + 2 ≤ w3.heap.size from Nat.le_trans (HBASE.out _) hgr.size)
                   clear hown hgr hal
                   obtain ⟨⟨a0, a1, a2, a3, a4⟩, b0', b1', b2', b3', b4'⟩ := five (w1 := w3) HX3.out rfl
                   obtain ⟨⟨p0, p1, p2, p3, p4⟩, -⟩ := five (w1 := w3) HN3.out rfl))
              have hfin := HREL.out (((((w3.setCell ⟨w.heap.size, 0, none⟩ (.int .i64 ys)).setCell ⟨w.heap.size, 1, none⟩ (.int .i64 yd)).setCell ⟨w.heap.size, 2, none⟩ (.int .i64 yl)).setCell ⟨w.heap.size, 3, none⟩ (.int .i64 ym)).setCell ⟨w.heap.size, 4, none⟩ (.int .i64 yf)) v3 (fiveT_set HX3.out _ _ _ _ _) ((fiveT_ne (by simp) _ _ _ _ _).trans HF3.out)
                (RowO.keep HO3.out fun k hk => fiveT_ne (by have := (HO3.out.ge k hk).1; omega) _ _ _ _ _) (((((HB3.out.setCell (by simp) _).setCell (by simp) _).setCell (by simp) _).setCell (by simp) _).setCell (by simp) _) (by simp [World.setCell]; have := HSZ3.out; omega)
              have HFIN := Lib.hid hfin
              clear hfin
              go_roundw
              case rel => exact ⟨k + 1, by first | rfl | rw [HK2.out], HFIN.out⟩
              case measure => simp [intOf]; omega
        · have hN : (((((w1.setCell ⟨wr.heap.size, 0, none⟩ (.int .i64 ys)).setCell ⟨wr.heap.size, 1, none⟩ (.int .i64 yd)).setCell ⟨wr.heap.size, 2, none⟩ (.int .i64 yl)).setCell ⟨wr.heap.size, 3, none⟩ (.int .i64 ym)).setCell ⟨wr.heap.size, 4, none⟩ (.int .i64 yf)).heap[wr.heap.size]? = _ := fiveT_set ((HBK.out.block wr.heap.size (by simp)).trans (heap_alloc_new wr _)) _ _ _ _ _
          have hX : (((((w1.setCell ⟨wr.heap.size, 0, none⟩ (.int .i64 ys)).setCell ⟨wr.heap.size, 1, none⟩ (.int .i64 yd)).setCell ⟨wr.heap.size, 2, none⟩ (.int .i64 yl)).setCell ⟨wr.heap.size, 3, none⟩ (.int .i64 ym)).setCell ⟨wr.heap.size, 4, none⟩ (.int .i64 yf)).heap[w.heap.size]? = _ := (fiveT_ne hn1 _ _ _ _ _).trans ((HW1.out.block _ hlw).trans H2.out)
          have hF : (((((w1.setCell ⟨wr.heap.size, 0, none⟩ (.int .i64 ys)).setCell ⟨wr.heap.size, 1, none⟩ (.int .i64 yd)).setCell ⟨wr.heap.size, 2, none⟩ (.int .i64 yl)).setCell ⟨wr.heap.size, 3, none⟩ (.int .i64 ym)).setCell ⟨wr.heap.size, 4, none⟩ (.int .i64 yf)).heap[w.heap.size + 1]? = _ := (fiveT_ne (by have := lt_of_block H4.out; omega) _ _ _ _ _).trans ((HW1.out.block _ (lt_of_block H4.out)).trans H4.out)
          have hW : Below wr.heap.size wr (((((w1.setCell ⟨wr.heap.size, 0, none⟩ (.int .i64 ys)).setCell ⟨wr.heap.size, 1, none⟩ (.int .i64 yd)).setCell ⟨wr.heap.size, 2, none⟩ (.int .i64 yl)).setCell ⟨wr.heap.size, 3, none⟩ (.int .i64 ym)).setCell ⟨wr.heap.size, 4, none⟩ (.int .i64 yf)) := ((((HW1.out.setCell (Nat.le_refl _) _).setCell (Nat.le_refl _) _).setCell (Nat.le_refl _) _).setCell (Nat.le_refl _) _).setCell (Nat.le_refl _) _
          generalize (((((w1.setCell ⟨wr.heap.size, 0, none⟩ (.int .i64 ys)).setCell ⟨wr.heap.size, 1, none⟩ (.int .i64 yd)).setCell ⟨wr.heap.size, 2, none⟩ (.int .i64 yl)).setCell ⟨wr.heap.size, 3, none⟩ (.int .i64 ym)).setCell ⟨wr.heap.size, 4, none⟩ (.int .i64 yf)) = w2 at hN hX hF hW ⊢
          have hge := Nat.le_refl wr.heap.size
          generalize hnb : wr.heap.size = nb at hN hge ⊢
          have hXw : w.heap.size ≠ nb := by omega
          have hFw : w.heap.size + 1 ≠ nb := by have := lt_of_block H4.out; omega
          have hcd : w2.cell? ⟨b, off + k, none⟩ = some (bv b0) := (hW.cell (p := ⟨b, off + k, none⟩) hlb).trans hcell
          have HB2 := Lib.hid (HBL.out.trans (hW.mono HBL.out.size))
          have HW2 := Lib.hid hW
          have HFF := Lib.hid hF
          have HXX := Lib.hid hX
          have HNN := Lib.hid hN
          have HGE := Lib.hid hge
          have HL4 := Lib.hid (lt_of_block H4.out)
          clear c0 c1 c2 c3 c4 c5 hcN hfN hz1 HBK e0 e1 e2 e3 e4 f0 f1 f2 f3 f4 d0 d1 d2 d3 d4 g0 g1 g2 g3 g4 hcell
          obtain ⟨⟨e0, e1, e2, e3, e4⟩, f0, f1, f2, f3, f4⟩ := five (w1 := w2) hX rfl
          obtain ⟨⟨d0, d1, d2, d3, d4⟩, g0, g1, g2, g3, g4⟩ := five (w1 := w2) hF rfl
          obtain ⟨⟨n0, n1, n2, n3, n4⟩, m0, m1, m2, m3, m4⟩ := five (w1 := w2) hN rfl
          clear hX hF hN hW hge
          cases ok with
          | false =>
            go_wp2_with fail
            have h4' : (w2.setCell ⟨w.heap.size, 0, none⟩ (.int .i64 11)).heap[w.heap.size + 1]? = _ := (Below.heap_setCell _ _ _ _ (by simp)).trans HFF.out
            have h5 := fiveT_set h4' (.int .i64 11) (.int .i64 xd) (.int .i64 xl) (.int .i64 xm) (.int .i64 xf)
            have k0 := (blk_cell h5 0).trans rfl
            have k1 := (blk_cell h5 1).trans rfl
            have k2 := (blk_cell h5 2).trans rfl
            have k3 := (blk_cell h5 3).trans rfl
            have k4 := (blk_cell h5 4).trans rfl
            refine bodyPost_ret (by simp [results, Tryd.results57, go_sem, k0, k1, k2, k3, k4]; try rfl) rfl ?_
            have hq3 : q = (⟨11, xd, xl, xm, xf⟩, [], k, false) := HQ.out.symm
            have hb := HB2.out
            refine ⟨_, by rw [hq3]; rfl, by rw [hq3]; exact Ow.nil _ _, ((((((hb.setCell (by simp) _).setCell (by simp) _).setCell (by simp) _).setCell (by simp) _).setCell (by simp) _).setCell (by simp) _)⟩
          | true =>
            have hREL := HREL.out rfl
            clear HREL
            have HO2 := Lib.hid (Ow.below HO.out HW2.out)
            have HGO := Lib.hid HO.out.ge
            cases dt with
            | false =>
              simp only [Bool.false_eq_true, if_false] at hREL
              have HREL := Lib.hid hREL
              clear hREL
              go_wp2_with fail
              have hfin := HREL.out (((((w2.setCell ⟨w.heap.size, 0, none⟩ (.int .i64 ys)).setCell ⟨w.heap.size, 1, none⟩ (.int .i64 yd)).setCell ⟨w.heap.size, 2, none⟩ (.int .i64 yl)).setCell ⟨w.heap.size, 3, none⟩ (.int .i64 ym)).setCell ⟨w.heap.size, 4, none⟩ (.int .i64 yf)) u8 (fiveT_set HXX.out _ _ _ _ _) ((fiveT_ne (by simp) _ _ _ _ _).trans HFF.out)
                (RowO.keep HO2.out fun k hk => fiveT_ne (by have := (HGO.out k hk).1; omega) _ _ _ _ _) (((((HB2.out.setCell (by simp) _).setCell (by simp) _).setCell (by simp) _).setCell (by simp) _).setCell (by simp) _) (by simp [World.setCell]; have := HW2.out.size; have := HSZ.out; omega)
              have HFIN := Lib.hid hfin
              clear hfin
              go_roundw
              case rel => exact ⟨k + 1, by first | rfl | rw [HK2.out], HFIN.out⟩
              case measure => simp [intOf]; omega
            | true =>
              simp only [if_true] at hREL
              have HREL := Lib.hid hREL
              clear hREL
              have HOA := Lib.hid (fun o => RowO.alloc HO2.out o)
              have HS1 : Hid (out.length + 1 ≤ 70368744177664) := Lib.hid (by omega)
              have HBASE := Lib.hid (show ∀ o, w.heap.size + 2 ≤ (w2.alloc o).heap.size from fun o => by have := HW2.out.size; have := HSZ.out; simp; omega)
              go_wp2_with (first
                | (at_builtin; refine wp_app rfl _ _ rfl (w.heap.size + 2) u8 out rfl (HOA.out _) (some ⟨w2.heap.size, 0, none⟩) 1 1 rfl [b0] rfl (Bs.of_block (heap_alloc_new w2 _)) nofun HS1.out (HBASE.out _) ?_; intro v3 w3 hown hgr hal
                   have HB3 := Lib.hid (Below.own (HB2.out.alloc HB2.out.size _) (HOA.out _) hgr (by omega))
                   have HO3 := Lib.hid hown
                   have HX3 := Lib.hid ((hgr.block w.heap.size (by have := HBASE.out (.cells #[bv b0] 5); simp at this ⊢; omega) (fun e => by have := (HGO.out _ e.symm).1; omega)).trans ((Below.heap_alloc w2 _ _ (by have := HW2.out.size; omega)).trans HXX.out))
                   have HF3 := Lib.hid ((hgr.block (w.heap.size + 1) (by have := HBASE.out (.cells #[bv b0] 5); simp at this ⊢; omega) (fun e => by have := (HGO.out _ e.symm).1; omega)).trans ((Below.heap_alloc w2 _ _ (by have := HW2.out.size; have := HL4.out; omega)).trans HFF.out))
                   have HN3 := Lib.hid ((hgr.block nb (by have := lt_of_block HNN.out; simp; omega) (fun e => by have := (HGO.out _ e.symm).2; have := HGE.out; omega)).trans ((Below.heap_alloc w2 _ _ (by have := lt_of_block HNN.out; omega)).trans HNN.out))
                   have HSZ3 := Lib.hid (show w.heap.size + 2 ≤ w3.heap.size from Nat.le_trans (HBASE.out _) hgr.size)
                   clear hown hgr hal
                   obtain ⟨⟨a0, a1, a2, a3, a4⟩, b0', b1', b2', b3', b4'⟩ := five (w1 := w3) HX3.out rfl
                   obtain ⟨⟨p0, p1, p2, p3, p4⟩, -⟩ := five (w1 := w3) HN3.out rfl))
              have hfin := HREL.out (((((w3.setCell ⟨w.heap.size, 0, none⟩ (.int .i64 ys)).setCell ⟨w.heap.size, 1, none⟩ (.int .i64 yd)).setCell ⟨w.heap.size, 2, none⟩ (.int .i64 yl)).setCell ⟨w.heap.size, 3, none⟩ (.int .i64 ym)).setCell ⟨w.heap.size, 4, none⟩ (.int .i64 yf)) v3 (fiveT_set HX3.out _ _ _ _ _) ((fiveT_ne (by simp) _ _ _ _ _).trans HF3.out)
                (RowO.keep HO3.out fun k hk => fiveT_ne (by have := (HO3.out.ge k hk).1; omega) _ _ _ _ _) (((((HB3.out.setCell (by simp) _).setCell (by simp) _).setCell (by simp) _).setCell (by simp) _).setCell (by simp) _) (by simp [World.setCell]; have := HSZ3.out; omega)
              have HFIN := Lib.hid hfin
              clear hfin
              go_roundw
              case rel => exact ⟨k + 1, by first | rfl | rw [HK2.out], HFIN.out⟩
              case measure => simp [intOf]; omega
    · obtain rfl : k = l.length := by omega
      have HO := Lib.hid ho
      have HQ := Lib.hid (show q = (⟨xs, xd, xl, xm, xf⟩, out, l.length, true) from by rw [← hq, List.drop_length, runR])
      have HBL := Lib.hid hbl
      have H4 := Lib.hid h4
      clear ho hq hbl h2 h4 hi hr hc hol hsz hxs
      (first | go_wp2_with fail | fail)
      have h5 := fiveT_set H4.out (.int .i64 xs) (.int .i64 xd) (.int .i64 xl) (.int .i64 xm) (.int .i64 xf)
      have k0 := (blk_cell h5 0).trans rfl
      have k1 := (blk_cell h5 1).trans rfl
      have k2 := (blk_cell h5 2).trans rfl
      have k3 := (blk_cell h5 3).trans rfl
      have k4 := (blk_cell h5 4).trans rfl
      refine bodyPost_ret (by simp [results, Tryd.results57, go_sem, k0, k1, k2, k3, k4]; try rfl) rfl ?_
      have hb := HBL.out
      refine ⟨_, by rw [HQ.out]; rfl, by rw [HQ.out]; exact (RowO.keep HO.out fun k hk => fiveT_ne (by have := (HO.out.ge k hk).1; omega) _ _ _ _ _).mono (by omega), by go_grown⟩

theorem rTake_calls (w : World) (r : Rd) (x : RR) (hi : RdI r) (hc : Cor r x) (ao : Option Addr) (l : List UInt8) (hl : l.length ≤ 1099511627776) (c : Nat) (hlc : l.length ≤ c) (hb : Bs w ao l) :
    Calls Tryd.prog 57 #[x.v, .slice ao l.length c] w (RtP w (rtakeA x l)) := by
  have hx := hc.st
  have hs := hi.st
  unfold rtakeA
  by_cases h : x.st = 11
  · rw [if_pos h]; exact rTake_broken w x h _
  · rw [if_neg h]; exact rTake_run w r x hi (by omega) hc ao l hl c hlc hb
end Go.Proofs.YteneioapchhehaaDoor
