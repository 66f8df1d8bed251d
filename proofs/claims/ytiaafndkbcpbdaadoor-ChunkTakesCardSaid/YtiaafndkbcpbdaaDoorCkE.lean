/- A part of the proofs over package chunk. -/
import Derived.Test.YtiaafndkbcpbdaaDoorCkD
namespace Go.Proofs.YtiaafndkbcpbdaaDoor
open Go.RowKit

def moreS (r : Rd) : Rd × Bool := ({ r with ln := r.ln + 1 }, decide (r.ln + 1 ≤ 200))
def expectS (r : Rd) (c want next : Int) : Rd × Bool := if c = want then ({ r with st := next, ln := 0 }, true) else (r, false)
def takeS (r : Rd) (c : Int) : Rd × Bool :=
  if r.st = 0 then
    if 0 ≤ hexV c ∧ r.ln < 15 then ({ r with lf := r.lf * 16 + hexV c, ln := r.ln + 1 }, true)
    else if r.ln = 0 then (r, false)
    else if c = 59 then moreS { r with st := 1 }
    else expectS r c 13 2
  else if r.st = 1 then (if plainB c then moreS r else expectS r c 13 2)
  else if r.st = 2 then expectS r c 10 (sizedN r.lf)
  else if r.st = 4 then expectS r c 13 5
  else if r.st = 5 then expectS r c 10 0
  else if r.st = 6 then (if plainB c then
      if r.mn + 1 ≤ 64 then moreS { r with st := 7, mn := r.mn + 1 } else ({ r with st := 7, mn := r.mn + 1 }, false)
    else expectS r c 13 9)
  else if r.st = 7 then (if plainB c then moreS r else expectS r c 13 8)
  else if r.st = 8 then expectS r c 10 6
  else if r.st = 9 then expectS r c 10 10
  else (r, false)

/-- what a call of take does -/
def TakePost (w : World) (g : Nat) (q : Rd × Bool) (e : Ending) (w' : World) : Prop := e = .returned (.bool q.2) ∧ RdAt w' g q.1 ∧ Ch (· = g) w w'

theorem RdAt.below {w w' : World} {g : Nat} {r : Rd} (h : RdAt w g r) (hb : Below w.heap.size w w') : RdAt w' g r :=
  (hb.block g (lt_of_block h)).trans h

/-- expect's end -/
theorem expect_end {w0 w : World} {g : Nat} {r : Rd} (h : RdAt w g r) (hc : Ch (· = g) w0 w) (c want next : Int) {e : Ending} {w' : World} (he : e = .returned (.bool (c == want))) 
    (hw : (if c = want then (w.setCell ⟨g, 0, none⟩ (.int .i64 next)).setCell ⟨g, 1, none⟩ (.int .i64 0) else w) = w') : TakePost w0 g (expectS r c want next) e w' := by
  unfold expectS
  by_cases hcw : c = want
  · rw [if_pos hcw] at hw ⊢
    subst hw
    subst hcw
    exact ⟨by rw [he]; simp, (h.set0 next).set1 0, (hc.set (.inl rfl) _).set (.inl rfl) _⟩
  · rw [if_neg hcw] at hw ⊢
    subst hw
    exact ⟨by rw [he]; simp [hcw], h, hc⟩
theorem more_end {w0 w : World} {g : Nat} {r : Rd} (h : RdAt w g r) (hc : Ch (· = g) w0 w) {e : Ending} {w' : World} (he : e = .returned (.bool (decide (r.ln + 1 ≤ 200)))) 
    (hw : w.setCell ⟨g, 1, none⟩ (.int .i64 (r.ln + 1)) = w') : TakePost w0 g (moreS r) e w' := by
  subst hw
  exact ⟨he, h.set1 _, hc.set (.inl rfl) _⟩

set_option maxHeartbeats 400000 in
theorem take_2 (w : World) (g : Nat) (r : Rd) (hr : r.st = 2) (h : RdAt w g r) (c : Int) :
    Calls Tryd.prog 23 #[.pointer (some ⟨g, 0, none⟩), .int .u8 c] w (TakePost w g (expectS r c 10 (sizedN r.lf))) := by
  have c0 := h.cells.1
  rw [hr] at c0
  have Hr := Lib.hid hr
  clear hr
  have H := Lib.hid h
  clear h
  go_enter Tryd.func23, Tryd.ntmps23
  go_wp2_with fail
  refine (sized_calls _ _ _ H.out).mono ?_
  rintro e w' ⟨rfl, rfl⟩
  go_wp2_with fail
  refine (expect_calls _ _ _ H.out _ _ _).mono ?_
  rintro e w1 ⟨rfl, hw1⟩
  have HW := Lib.hid hw1
  clear hw1
  go_wp2_with fail
  go_ret
  exact expect_end H.out (Ch.refl _ _) _ _ _ rfl HW.out

set_option maxHeartbeats 400000 in
theorem take_4 (w : World) (g : Nat) (r : Rd) (hr : r.st = 4) (h : RdAt w g r) (c : Int) :
    Calls Tryd.prog 23 #[.pointer (some ⟨g, 0, none⟩), .int .u8 c] w (TakePost w g (expectS r c 13 5)) := by
  have c0 := h.cells.1
  rw [hr] at c0
  clear hr
  have H := Lib.hid h
  clear h
  go_enter Tryd.func23, Tryd.ntmps23
  go_wp2_with fail
  refine (expect_calls _ _ _ H.out _ _ _).mono ?_
  rintro e w1 ⟨rfl, hw1⟩
  have HW := Lib.hid hw1
  clear hw1
  go_wp2_with fail
  go_ret
  exact expect_end H.out (Ch.refl _ _) _ _ _ rfl HW.out

set_option maxHeartbeats 400000 in
theorem take_5 (w : World) (g : Nat) (r : Rd) (hr : r.st = 5) (h : RdAt w g r) (c : Int) :
    Calls Tryd.prog 23 #[.pointer (some ⟨g, 0, none⟩), .int .u8 c] w (TakePost w g (expectS r c 10 0)) := by
  have c0 := h.cells.1
  rw [hr] at c0
  clear hr
  have H := Lib.hid h
  clear h
  go_enter Tryd.func23, Tryd.ntmps23
  go_wp2_with fail
  refine (expect_calls _ _ _ H.out _ _ _).mono ?_
  rintro e w1 ⟨rfl, hw1⟩
  have HW := Lib.hid hw1
  clear hw1
  go_wp2_with fail
  go_ret
  exact expect_end H.out (Ch.refl _ _) _ _ _ rfl HW.out

set_option maxHeartbeats 400000 in
theorem take_8 (w : World) (g : Nat) (r : Rd) (hr : r.st = 8) (h : RdAt w g r) (c : Int) :
    Calls Tryd.prog 23 #[.pointer (some ⟨g, 0, none⟩), .int .u8 c] w (TakePost w g (expectS r c 10 6)) := by
  have c0 := h.cells.1
  rw [hr] at c0
  clear hr
  have H := Lib.hid h
  clear h
  go_enter Tryd.func23, Tryd.ntmps23
  go_wp2_with fail
  refine (expect_calls _ _ _ H.out _ _ _).mono ?_
  rintro e w1 ⟨rfl, hw1⟩
  have HW := Lib.hid hw1
  clear hw1
  go_wp2_with fail
  go_ret
  exact expect_end H.out (Ch.refl _ _) _ _ _ rfl HW.out

set_option maxHeartbeats 400000 in
theorem take_9 (w : World) (g : Nat) (r : Rd) (hr : r.st = 9) (h : RdAt w g r) (c : Int) :
    Calls Tryd.prog 23 #[.pointer (some ⟨g, 0, none⟩), .int .u8 c] w (TakePost w g (expectS r c 10 10)) := by
  have c0 := h.cells.1
  rw [hr] at c0
  clear hr
  have H := Lib.hid h
  clear h
  go_enter Tryd.func23, Tryd.ntmps23
  go_wp2_with fail
  refine (expect_calls _ _ _ H.out _ _ _).mono ?_
  rintro e w1 ⟨rfl, hw1⟩
  have HW := Lib.hid hw1
  clear hw1
  go_wp2_with fail
  go_ret
  exact expect_end H.out (Ch.refl _ _) _ _ _ rfl HW.out

set_option maxHeartbeats 400000 in
theorem take_1_y (w : World) (g : Nat) (r : Rd) (hr : r.st = 1) (hl : 0 ≤ r.ln ∧ r.ln ≤ 1000) (h : RdAt w g r) (c : Int) (hp : plainB c = true) :
    Calls Tryd.prog 23 #[.pointer (some ⟨g, 0, none⟩), .int .u8 c] w (TakePost w g (moreS r)) := by
  have c0 := h.cells.1
  rw [hr] at c0
  clear hr
  have H := Lib.hid h
  clear h
  have HL := Lib.hid hl
  clear hl
  go_enter Tryd.func23, Tryd.ntmps23
  go_wp2_with fail
  refine (plain_calls _ _).mono ?_
  rintro e w' ⟨rfl, rfl⟩
  go_wp2_with fail
  refine (more_calls _ _ _ H.out HL.out).mono ?_
  rintro e w1 ⟨rfl, hw1⟩
  have HW := Lib.hid hw1
  clear hw1
  go_wp2_with fail
  go_ret
  exact more_end H.out (Ch.refl _ _) rfl HW.out
set_option maxHeartbeats 400000 in
theorem take_1_n (w : World) (g : Nat) (r : Rd) (hr : r.st = 1) (h : RdAt w g r) (c : Int) (hp : plainB c = false) :
    Calls Tryd.prog 23 #[.pointer (some ⟨g, 0, none⟩), .int .u8 c] w (TakePost w g (expectS r c 13 2)) := by
  have c0 := h.cells.1
  rw [hr] at c0
  clear hr
  have H := Lib.hid h
  clear h
  go_enter Tryd.func23, Tryd.ntmps23
  go_wp2_with fail
  refine (plain_calls _ _).mono ?_
  rintro e w' ⟨rfl, rfl⟩
  go_wp2_with fail
  refine (expect_calls _ _ _ H.out _ _ _).mono ?_
  rintro e w1 ⟨rfl, hw1⟩
  have HW := Lib.hid hw1
  clear hw1
  go_wp2_with fail
  go_ret
  exact expect_end H.out (Ch.refl _ _) _ _ _ rfl HW.out

set_option maxHeartbeats 400000 in
theorem take_7_y (w : World) (g : Nat) (r : Rd) (hr : r.st = 7) (hl : 0 ≤ r.ln ∧ r.ln ≤ 1000) (h : RdAt w g r) (c : Int) (hp : plainB c = true) :
    Calls Tryd.prog 23 #[.pointer (some ⟨g, 0, none⟩), .int .u8 c] w (TakePost w g (moreS r)) := by
  have c0 := h.cells.1
  rw [hr] at c0
  clear hr
  have H := Lib.hid h
  clear h
  have HL := Lib.hid hl
  clear hl
  go_enter Tryd.func23, Tryd.ntmps23
  go_wp2_with fail
  refine (plain_calls _ _).mono ?_
  rintro e w' ⟨rfl, rfl⟩
  go_wp2_with fail
  refine (more_calls _ _ _ H.out HL.out).mono ?_
  rintro e w1 ⟨rfl, hw1⟩
  have HW := Lib.hid hw1
  clear hw1
  go_wp2_with fail
  go_ret
  exact more_end H.out (Ch.refl _ _) rfl HW.out
set_option maxHeartbeats 400000 in
theorem take_7_n (w : World) (g : Nat) (r : Rd) (hr : r.st = 7) (h : RdAt w g r) (c : Int) (hp : plainB c = false) :
    Calls Tryd.prog 23 #[.pointer (some ⟨g, 0, none⟩), .int .u8 c] w (TakePost w g (expectS r c 13 8)) := by
  have c0 := h.cells.1
  rw [hr] at c0
  clear hr
  have H := Lib.hid h
  clear h
  go_enter Tryd.func23, Tryd.ntmps23
  go_wp2_with fail
  refine (plain_calls _ _).mono ?_
  rintro e w' ⟨rfl, rfl⟩
  go_wp2_with fail
  refine (expect_calls _ _ _ H.out _ _ _).mono ?_
  rintro e w1 ⟨rfl, hw1⟩
  have HW := Lib.hid hw1
  clear hw1
  go_wp2_with fail
  go_ret
  exact expect_end H.out (Ch.refl _ _) _ _ _ rfl HW.out

set_option maxHeartbeats 400000 in
theorem take_6_n (w : World) (g : Nat) (r : Rd) (hr : r.st = 6) (h : RdAt w g r) (c : Int) (hp : plainB c = false) :
    Calls Tryd.prog 23 #[.pointer (some ⟨g, 0, none⟩), .int .u8 c] w (TakePost w g (expectS r c 13 9)) := by
  have c0 := h.cells.1
  rw [hr] at c0
  clear hr
  have H := Lib.hid h
  clear h
  go_enter Tryd.func23, Tryd.ntmps23
  go_wp2_with fail
  refine (plain_calls _ _).mono ?_
  rintro e w' ⟨rfl, rfl⟩
  go_wp2_with fail
  refine (expect_calls _ _ _ H.out _ _ _).mono ?_
  rintro e w1 ⟨rfl, hw1⟩
  have HW := Lib.hid hw1
  clear hw1
  go_wp2_with fail
  go_ret
  exact expect_end H.out (Ch.refl _ _) _ _ _ rfl HW.out

set_option maxHeartbeats 400000 in
theorem take_6_y (w : World) (g : Nat) (r : Rd) (hr : r.st = 6) (hl : 0 ≤ r.ln ∧ r.ln ≤ 1000) (hm : 0 ≤ r.mn ∧ r.mn ≤ 1000) (hm2 : r.mn + 1 ≤ 64) (h : RdAt w g r) (c : Int) (hp : plainB c = true) :
    Calls Tryd.prog 23 #[.pointer (some ⟨g, 0, none⟩), .int .u8 c] w (TakePost w g (moreS { r with st := 7, mn := r.mn + 1 })) := by
  obtain ⟨c0, -, c2, -, f0, -, f2, -⟩ := h.cells
  rw [hr] at c0
  clear hr
  obtain ⟨m0, m1⟩ := hm
  have H := Lib.hid ((h.set0 7).set2 (r.mn + 1))
  clear h
  have HL := Lib.hid hl
  clear hl
  go_enter Tryd.func23, Tryd.ntmps23
  go_wp2_with fail
  refine (plain_calls _ _).mono ?_
  rintro e w' ⟨rfl, rfl⟩
  go_wp2_with fail
  refine (more_calls _ _ _ H.out HL.out).mono ?_
  rintro e w1 ⟨rfl, hw1⟩
  have HW := Lib.hid hw1
  clear hw1
  go_wp2_with fail
  go_ret
  exact more_end H.out (ch_set2 _ _ _ _ _ _) rfl HW.out
set_option maxHeartbeats 400000 in
theorem take_6_f (w : World) (g : Nat) (r : Rd) (hr : r.st = 6) (hm : 0 ≤ r.mn ∧ r.mn ≤ 1000) (hm2 : 64 < r.mn + 1) (h : RdAt w g r) (c : Int) (hp : plainB c = true) :
    Calls Tryd.prog 23 #[.pointer (some ⟨g, 0, none⟩), .int .u8 c] w (TakePost w g ({ r with st := 7, mn := r.mn + 1 }, false)) := by
  obtain ⟨c0, -, c2, -, f0, -, f2, -⟩ := h.cells
  rw [hr] at c0
  clear hr
  obtain ⟨m0, m1⟩ := hm
  have H := Lib.hid ((h.set0 7).set2 (r.mn + 1))
  clear h
  go_enter Tryd.func23, Tryd.ntmps23
  go_wp2_with fail
  refine (plain_calls _ _).mono ?_
  rintro e w' ⟨rfl, rfl⟩
  go_wp2_with fail
  go_ret
  exact ⟨rfl, H.out, ch_set2 _ _ _ _ _ _⟩

set_option maxHeartbeats 400000 in
theorem take_0_h (w : World) (g : Nat) (r : Rd) (hr : r.st = 0) (hl : 0 ≤ r.ln ∧ r.ln ≤ 1000) (hl2 : r.ln < 15) (hf : 0 ≤ r.lf ∧ r.lf < 72057594037927936) (h : RdAt w g r) (hE : ErrVar 1 w) (c : Int) (hc : 0 ≤ c ∧ c < 256) (hx : 0 ≤ hexV c) :
    Calls Tryd.prog 23 #[.pointer (some ⟨g, 0, none⟩), .int .u8 c] w (TakePost w g ({ r with lf := r.lf * 16 + hexV c, ln := r.ln + 1 }, true)) := by
  have c0 := h.cells.1
  rw [hr] at c0
  clear hr
  have H := Lib.hid h
  clear h
  obtain ⟨l0, l1⟩ := hl
  obtain ⟨f0, f1⟩ := hf
  have hx2 : hexV c ≤ 15 := by unfold hexV; split; omega; split; omega; split <;> omega
  have HX := hex_calls c hc.1 hc.2 w hE
  rw [if_neg (by omega), show decide (0 ≤ hexV c) = true from by simp; omega] at HX
  generalize hexV c = n at *
  have HX' := Lib.hid HX
  clear HX hc hE
  go_enter Tryd.func23, Tryd.ntmps23
  go_wp2_with fail
  refine HX'.out.mono ?_
  rintro e w1 ⟨rfl, hb⟩
  have h1 := H.out.below hb
  obtain ⟨-, c1, -, c3, -, g1, -, g3⟩ := h1.cells
  have HC := Lib.hid ((Ch.refl (· = g) w).below hb)
  have H1 := Lib.hid h1
  clear hb h1 c0
  go_wp2_with fail
  go_ret
  exact ⟨rfl, (H1.out.set3 _).set1 _, Ch.set (S := (· = g)) (Ch.set (S := (· = g)) HC.out (.inl rfl) _) (.inl rfl) _⟩

set_option maxHeartbeats 400000 in
theorem take_0_e (w : World) (g : Nat) (r : Rd) (hr : r.st = 0) (hl0 : r.ln = 0) (h : RdAt w g r) (hE : ErrVar 1 w) (c : Int) (hc : 0 ≤ c ∧ c < 256) (hx : hexV c < 0) :
    Calls Tryd.prog 23 #[.pointer (some ⟨g, 0, none⟩), .int .u8 c] w (TakePost w g (r, false)) := by
  have c0 := h.cells.1
  rw [hr] at c0
  have H := Lib.hid h
  clear h
  have HL := Lib.hid hl0
  clear hl0 hr
  have HX := hex_calls c hc.1 hc.2 w hE
  rw [if_pos (by omega), show decide (0 ≤ hexV c) = false from by simp; omega] at HX
  have HX' := Lib.hid HX
  clear HX hc hE hx
  go_enter Tryd.func23, Tryd.ntmps23
  go_wp2_with fail
  refine HX'.out.mono ?_
  rintro e w1 ⟨rfl, hb⟩
  have h1 := H.out.below hb
  have c1 := h1.cells.2.1
  rw [HL.out] at c1
  have HC := Lib.hid ((Ch.refl (· = g) w).below hb)
  have H1 := Lib.hid h1
  clear hb h1 c0
  go_wp2_with fail
  go_ret
  exact ⟨rfl, H1.out, HC.out⟩

set_option maxHeartbeats 400000 in
theorem take_0_s (w : World) (g : Nat) (r : Rd) (hr : r.st = 0) (hl : 1 ≤ r.ln ∧ r.ln ≤ 1000) (h : RdAt w g r) (hE : ErrVar 1 w) (n : Int) (b : Bool) (hb : b = false ∨ 15 ≤ r.ln)
    (HX : Calls Tryd.prog 28 #[.int .u8 59] w fun e w' => e = .returned (.tuple #[.int .i64 n, .bool b]) ∧ Below w.heap.size w w') :
    Calls Tryd.prog 23 #[.pointer (some ⟨g, 0, none⟩), .int .u8 59] w (TakePost w g (moreS { r with st := 1 })) := by
  have c0 := h.cells.1
  rw [hr] at c0
  have H := Lib.hid h
  clear h hr
  obtain ⟨l0, l1⟩ := hl
  have HX' := Lib.hid HX
  clear HX hE
  rcases hb with rfl | hb
  all_goals
    go_enter Tryd.func23, Tryd.ntmps23
    go_wp2_with fail
    refine HX'.out.mono ?_
    rintro e w1 ⟨rfl, hb⟩
    have h1 := H.out.below hb
    have c1 := h1.cells.2.1
    have c0' := h1.cells.1
    have f0 := h1.cells.2.2.2.2.1
    have HC := Lib.hid ((Ch.refl (· = g) w).below hb)
    have H1 := Lib.hid (h1.set0 1)
    clear hb h1 c0
    go_wp2_with fail
  all_goals
    refine (more_calls _ _ _ H1.out (show 0 ≤ r.ln ∧ r.ln ≤ 1000 from ⟨by omega, l1⟩)).mono ?_
    rintro e w2 ⟨rfl, hw1⟩
    have HW := Lib.hid hw1
    clear hw1
    go_wp2_with fail
    go_ret
    exact more_end H1.out (Ch.set (S := (· = g)) HC.out (.inl rfl) _) rfl HW.out

set_option maxHeartbeats 400000 in
theorem take_0_x (w : World) (g : Nat) (r : Rd) (hr : r.st = 0) (hl : 1 ≤ r.ln ∧ r.ln ≤ 1000) (h : RdAt w g r) (n : Int) (b : Bool) (c : Int) (hb : b = false ∨ 15 ≤ r.ln) (hc : (c == 59) = false)
    (HX : Calls Tryd.prog 28 #[.int .u8 c] w fun e w' => e = .returned (.tuple #[.int .i64 n, .bool b]) ∧ Below w.heap.size w w') :
    Calls Tryd.prog 23 #[.pointer (some ⟨g, 0, none⟩), .int .u8 c] w (TakePost w g (expectS r c 13 2)) := by
  have c0 := h.cells.1
  rw [hr] at c0
  have H := Lib.hid h
  clear h hr
  obtain ⟨l0, l1⟩ := hl
  have HX' := Lib.hid HX
  clear HX
  rcases hb with rfl | hb
  all_goals
    go_enter Tryd.func23, Tryd.ntmps23
    go_wp2_with fail
    refine HX'.out.mono ?_
    rintro e w1 ⟨rfl, hb⟩
    have h1 := H.out.below hb
    have c1 := h1.cells.2.1
    have c0' := h1.cells.1
    have f0 := h1.cells.2.2.2.2.1
    have HC := Lib.hid ((Ch.refl (· = g) w).below hb)
    have H1 := Lib.hid h1
    clear hb h1 c0
    go_wp2_with fail
  all_goals
    refine (expect_calls _ _ _ H1.out _ _ _).mono ?_
    rintro e w2 ⟨rfl, hw1⟩
    have HW := Lib.hid hw1
    clear hw1
    go_wp2_with fail
    go_ret
    exact expect_end H1.out HC.out _ _ _ rfl HW.out

set_option maxHeartbeats 400000 in
theorem take_z (w : World) (g : Nat) (r : Rd) (hr : r.st = 3 ∨ r.st = 10 ∨ r.st = 11) (h : RdAt w g r) (c : Int) :
    Calls Tryd.prog 23 #[.pointer (some ⟨g, 0, none⟩), .int .u8 c] w (TakePost w g (r, false)) := by
  have c0 := h.cells.1
  have H := Lib.hid h
  clear h
  rcases hr with hr | hr | hr
  all_goals
    rw [hr] at c0
    clear hr
    go_enter Tryd.func23, Tryd.ntmps23
    go_wp2_with fail
    go_ret
    exact ⟨rfl, H.out, Ch.refl _ _⟩

/-- what is so of a reader at every time -/
structure RdOk (r : Rd) : Prop where
  st : 0 ≤ r.st ∧ r.st ≤ 11
  ln : 0 ≤ r.ln ∧ r.ln ≤ 250
  mn : 0 ≤ r.mn ∧ r.mn ≤ 65
  lf : 0 ≤ r.lf ∧ r.lf < 1152921504606846976
  lf0 : r.st = 0 → r.ln < 15 → r.lf < 72057594037927936

theorem take_calls (w : World) (g : Nat) (r : Rd) (ok : RdOk r) (h : RdAt w g r) (hE : ErrVar 1 w) (c : Int) (hc : 0 ≤ c ∧ c < 256) :
    Calls Tryd.prog 23 #[.pointer (some ⟨g, 0, none⟩), .int .u8 c] w (TakePost w g (takeS r c)) := by
  obtain ⟨hst, hln, hmn, hlf, hlf0⟩ := ok
  have hln' : 0 ≤ r.ln ∧ r.ln ≤ 1000 := by omega
  have hmn' : 0 ≤ r.mn ∧ r.mn ≤ 1000 := by omega
  unfold takeS
  by_cases s0 : r.st = 0
  · rw [if_pos s0]
    by_cases hx : 0 ≤ hexV c ∧ r.ln < 15
    · rw [if_pos hx]
      exact take_0_h w g r s0 hln' hx.2 ⟨hlf.1, hlf0 s0 hx.2⟩ h hE c hc hx.1
    · rw [if_neg hx]
      by_cases hl0 : r.ln = 0
      · rw [if_pos hl0]
        exact take_0_e w g r s0 hl0 h hE c hc (by omega)
      · rw [if_neg hl0]
        have hb : decide (0 ≤ hexV c) = false ∨ 15 ≤ r.ln := by
          by_cases h15 : 15 ≤ r.ln
          · exact .inr h15
          · exact .inl (by simp; omega)
        by_cases h59 : c = 59
        · subst h59
          rw [if_pos rfl]
          exact take_0_s w g r s0 (by omega) h hE _ _ hb (hex_calls 59 hc.1 hc.2 w hE)
        · rw [if_neg h59]
          exact take_0_x w g r s0 (by omega) h _ _ c hb (by simpa using h59) (hex_calls c hc.1 hc.2 w hE)
  rw [if_neg s0]
  by_cases s1 : r.st = 1
  · rw [if_pos s1]
    by_cases hp : plainB c = true
    · rw [if_pos hp]; exact take_1_y w g r s1 hln' h c hp
    · rw [if_neg hp]; exact take_1_n w g r s1 h c (by simpa using hp)
  rw [if_neg s1]
  by_cases s2 : r.st = 2
  · rw [if_pos s2]; exact take_2 w g r s2 h c
  rw [if_neg s2]
  by_cases s4 : r.st = 4
  · rw [if_pos s4]; exact take_4 w g r s4 h c
  rw [if_neg s4]
  by_cases s5 : r.st = 5
  · rw [if_pos s5]; exact take_5 w g r s5 h c
  rw [if_neg s5]
  by_cases s6 : r.st = 6
  · rw [if_pos s6]
    by_cases hp : plainB c = true
    · rw [if_pos hp]
      by_cases h64 : r.mn + 1 ≤ 64
      · rw [if_pos h64]; exact take_6_y w g r s6 hln' hmn' h64 h c hp
      · rw [if_neg h64]; exact take_6_f w g r s6 hmn' (by omega) h c hp
    · rw [if_neg hp]; exact take_6_n w g r s6 h c (by simpa using hp)
  rw [if_neg s6]
  by_cases s7 : r.st = 7
  · rw [if_pos s7]
    by_cases hp : plainB c = true
    · rw [if_pos hp]; exact take_7_y w g r s7 hln' h c hp
    · rw [if_neg hp]; exact take_7_n w g r s7 h c (by simpa using hp)
  rw [if_neg s7]
  by_cases s8 : r.st = 8
  · rw [if_pos s8]; exact take_8 w g r s8 h c
  rw [if_neg s8]
  by_cases s9 : r.st = 9
  · rw [if_pos s9]; exact take_9 w g r s9 h c
  rw [if_neg s9]
  exact take_z w g r (by omega) h c

end Go.Proofs.YtiaafndkbcpbdaaDoor
