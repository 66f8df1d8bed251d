/- What mandoline's functions compute, and that they do (Fr): printed by wip/pr.py out of the translation. -/
import Derived.Test.YteneioapchhehaaDoorPFrx0
import Derived.Test.YteneioapchhehaaDoorPFrx4
namespace Go.Proofs.YteneioapchhehaaDoor.PFr
open Go.RowKit Go.Proofs.YteneioapchhehaaDoor.Ext Go.Proofs.YteneioapchhehaaDoorW.PrintWords Go.Proofs.YteneioapchhehaaDoorW.PrintLast Go.Proofs.YteneioapchhehaaDoorW.PrintMore
attribute [local go_sem] max2_int min2_int max_two min_two max_three min_three max_four min_four   -- for this text's walks alone
set_option linter.unusedVariables false
set_option linter.unusedSimpArgs false

/-! ### mandolineref13_Reader_End: function 21 -/
def mandolineref13_Reader_End.f (s0_0 : Int) (s0_1 : Int) (s0_2 : Int) (s0_3 : Int) (s0_4 : Int) (s0_5 : Int) (s0_6 : Int) (s0_7 : Bool) : Option (Int × Int × Int × Int × Int × Int × Int × Int × Bool) := (mandolineref13_Reader_Done.f s0_0 s0_1 s0_2 s0_3 s0_4 s0_5 s0_6 true).bind fun bt161 => (if bt161.1 = true then (some (0, bt161.2.1, bt161.2.2.1, bt161.2.2.2.1, bt161.2.2.2.2.1, bt161.2.2.2.2.2.1, bt161.2.2.2.2.2.2.1, bt161.2.2.2.2.2.2.2.1, bt161.2.2.2.2.2.2.2.2)) else (some (13, bt161.2.1, bt161.2.2.1, bt161.2.2.2.1, bt161.2.2.2.2.1, bt161.2.2.2.2.2.1, bt161.2.2.2.2.2.2.1, bt161.2.2.2.2.2.2.2.1, bt161.2.2.2.2.2.2.2.2)))
set_option maxHeartbeats 8000000 in
set_option maxRecDepth 100000 in
theorem mandolineref13_Reader_End.calls (g : Nat) (s0_0 : Int) (s0_1 : Int) (s0_2 : Int) (s0_3 : Int) (s0_4 : Int) (s0_5 : Int) (s0_6 : Int) (s0_7 : Bool) (r1 : Int) (r2 : Int) (r3 : Int) (r4 : Int) (r5 : Int) (r6 : Int) (r7 : Int) (r8 : Int) (r9 : Bool) (w0 w : World) (hI : IsS80 w0 w g s0_0 s0_1 s0_2 s0_3 s0_4 s0_5 s0_6 s0_7) (hB : Below w0.heap.size w0 w) (h : mandolineref13_Reader_End.f s0_0 s0_1 s0_2 s0_3 s0_4 s0_5 s0_6 s0_7 = some (r1, r2, r3, r4, r5, r6, r7, r8, r9)) :
    Calls Tryd.prog 21 #[.pointer (some ⟨g, 0, none⟩)] w fun e w' => e = .returned (.int .i64 r1) ∧ IsS80 w0 w' g r2 r3 r4 r5 r6 r7 r8 r9 ∧ Below w0.heap.size w0 w' ∧ KeepBut w w' g none := by
  have HI0 := Aside0.mk hI
  have HK := Aside0.mk (KeepBut.refl w g none)
  have HL := Aside0.mk hB.size
  clear hI
  have HW0 := Aside0.mk hB.size
  have HB := Aside0.mk hB
  clear hB
  have H : ((mandolineref13_Reader_Done.f s0_0 s0_1 s0_2 s0_3 s0_4 s0_5 s0_6 true).bind fun bt161 => (if bt161.1 = true then (some (0, bt161.2.1, bt161.2.2.1, bt161.2.2.2.1, bt161.2.2.2.2.1, bt161.2.2.2.2.2.1, bt161.2.2.2.2.2.2.1, bt161.2.2.2.2.2.2.2.1, bt161.2.2.2.2.2.2.2.2)) else (some (13, bt161.2.1, bt161.2.2.1, bt161.2.2.2.1, bt161.2.2.2.2.1, bt161.2.2.2.2.2.1, bt161.2.2.2.2.2.2.1, bt161.2.2.2.2.2.2.2.1, bt161.2.2.2.2.2.2.2.2)))) = some (r1, r2, r3, r4, r5, r6, r7, r8, r9) := h
  clear h
  replace H := Option.bind_eq_some_iff.mp H
  obtain ⟨⟨t161, t162, t163, t164, t165, t166, t167, t168, t169⟩, A20, H⟩ := H
  replace H : (if t161 = true then (some (0, t162, t163, t164, t165, t166, t167, t168, t169)) else (some (13, t162, t163, t164, t165, t166, t167, t168, t169))) = some (r1, r2, r3, r4, r5, r6, r7, r8, r9) := H
  have A2 := Aside0.mk A20
  clear A20
  by_cases c3 : t161 = true
  · subst c3
    have H1 : (some (0, t162, t163, t164, t165, t166, t167, t168, t169)) = some (r1, r2, r3, r4, r5, r6, r7, r8, r9) := by rw [if_pos rfl] at H; exact H
    clear H
    have H := H1
    clear H1
    simp only [Option.some.injEq, Prod.mk.injEq] at H
    obtain ⟨rfl, rfl, rfl, rfl, rfl, rfl, rfl, rfl, rfl⟩ := H
    obtain ⟨HGz4, hgz4⟩ := HI0.out
    have hcz4_0 := cellS80_0 HGz4
    have hcz4_1 := cellS80_1 HGz4
    have hcz4_2 := cellS80_2 HGz4
    have hcz4_3 := cellS80_3 HGz4
    have hcz4_4 := cellS80_4 HGz4
    have hcz4_5 := cellS80_5 HGz4
    have hcz4_6 := cellS80_6 HGz4
    have hcz4_7 := cellS80_7 HGz4
    have hfz4_0 := blk_frozen HGz4 0
    have hfz4_1 := blk_frozen HGz4 1
    have hfz4_2 := blk_frozen HGz4 2
    have hfz4_3 := blk_frozen HGz4 3
    have hfz4_4 := blk_frozen HGz4 4
    have hfz4_5 := blk_frozen HGz4 5
    have hfz4_6 := blk_frozen HGz4 6
    have hfz4_7 := blk_frozen HGz4 7
    clear HGz4 hgz4
    go_enter Tryd.func21, Tryd.ntmps21
    go_wp2_with (first | ((with_reducible refine gate_callee (f := 18) rfl ?_); refine goesL_ (some 7) rfl rfl Tryd.func18 (by kernel_rfl) rfl #[.pointer (some ⟨g, 0, none⟩)] rfl (by (try simp only [List.map_toArray, List.map_cons, List.map_nil]); first | done | rfl | (simp only [List.length_drop, List.length_take]; rfl)) ?_; (with_reducible refine (mandolineref13_Reader_Done.calls g s0_0 s0_1 s0_2 s0_3 s0_4 s0_5 s0_6 true true t162 t163 t164 t165 t166 t167 t168 t169 w0 _ ?side1 ?side2 A2.out).mono ?_); (case side1 => repeat (first | (with_reducible first | exact HI0.out | apply IsS80.alloc | apply IsS80.drewN | apply IsS80.drew | apply IsS80.set_0 | apply IsS80.set_1 | apply IsS80.set_2 | apply IsS80.set_3 | apply IsS80.set_4 | apply IsS80.set_5 | apply IsS80.set_6 | apply IsS80.set_7) | exact HI0.out)); (case side2 => repeat (first | (with_reducible first | exact HB.out | apply below_alloc | apply pw_below_drewN | apply below_drew1 | refine below_set ?_ (IsS80.ge HI0.out)) | exact HB.out)); rintro e w5 ⟨rfl, hi, hb, hk⟩; refine ⟨_, rfl, ?_⟩; have n0_ := Aside0.mk (KeepBut.trans (by repeat (first | (with_reducible first | exact HK.out | apply KeepBut.set_ | apply keep_drewN | apply keep_drew | apply keep_alloc) | exact HK.out)) hk (.inl rfl)); have n1_ := Aside0.mk (hb); have n2_ := Aside0.mk (hi); clear HK; clear HB; clear HI0; have HK := n0_; have HB := n1_; have HI0 := n2_; clear n0_ n1_ n2_; (try clear hb); (try clear hb2); (try clear hk); (try clear hi)))
    go_ret
    exact ⟨by first | rfl | (simp [errW_none, errW_some] <;> rfl) | (simp [*, errW_none, errW_some] <;> rfl), by repeat (first | (with_reducible first | exact HI0.out | apply IsS80.alloc | apply IsS80.drewN | apply IsS80.drew | apply IsS80.set_0 | apply IsS80.set_1 | apply IsS80.set_2 | apply IsS80.set_3 | apply IsS80.set_4 | apply IsS80.set_5 | apply IsS80.set_6 | apply IsS80.set_7) | exact HI0.out), by repeat (first | (with_reducible first | exact HB.out | apply below_alloc | apply pw_below_drewN | apply below_drew1 | refine below_set ?_ (IsS80.ge HI0.out)) | exact HB.out), by repeat (first | (with_reducible first | exact HK.out | apply KeepBut.set_ | apply keep_drewN | apply keep_drew | apply keep_alloc) | exact HK.out)⟩
  · replace c3 := Bool.eq_false_iff.mpr c3
    subst c3
    have H1 : (some (13, t162, t163, t164, t165, t166, t167, t168, t169)) = some (r1, r2, r3, r4, r5, r6, r7, r8, r9) := by rw [if_neg (show ¬ (false = true) by decide)] at H; exact H
    clear H
    have H := H1
    clear H1
    simp only [Option.some.injEq, Prod.mk.injEq] at H
    obtain ⟨rfl, rfl, rfl, rfl, rfl, rfl, rfl, rfl, rfl⟩ := H
    obtain ⟨HGz6, hgz6⟩ := HI0.out
    have hcz6_0 := cellS80_0 HGz6
    have hcz6_1 := cellS80_1 HGz6
    have hcz6_2 := cellS80_2 HGz6
    have hcz6_3 := cellS80_3 HGz6
    have hcz6_4 := cellS80_4 HGz6
    have hcz6_5 := cellS80_5 HGz6
    have hcz6_6 := cellS80_6 HGz6
    have hcz6_7 := cellS80_7 HGz6
    have hfz6_0 := blk_frozen HGz6 0
    have hfz6_1 := blk_frozen HGz6 1
    have hfz6_2 := blk_frozen HGz6 2
    have hfz6_3 := blk_frozen HGz6 3
    have hfz6_4 := blk_frozen HGz6 4
    have hfz6_5 := blk_frozen HGz6 5
    have hfz6_6 := blk_frozen HGz6 6
    have hfz6_7 := blk_frozen HGz6 7
    clear HGz6 hgz6
    go_enter Tryd.func21, Tryd.ntmps21
    go_wp2_with (first | ((with_reducible refine gate_callee (f := 18) rfl ?_); refine goesL_ (some 7) rfl rfl Tryd.func18 (by kernel_rfl) rfl #[.pointer (some ⟨g, 0, none⟩)] rfl (by (try simp only [List.map_toArray, List.map_cons, List.map_nil]); first | done | rfl | (simp only [List.length_drop, List.length_take]; rfl)) ?_; (with_reducible refine (mandolineref13_Reader_Done.calls g s0_0 s0_1 s0_2 s0_3 s0_4 s0_5 s0_6 true false t162 t163 t164 t165 t166 t167 t168 t169 w0 _ ?side1 ?side2 A2.out).mono ?_); (case side1 => repeat (first | (with_reducible first | exact HI0.out | apply IsS80.alloc | apply IsS80.drewN | apply IsS80.drew | apply IsS80.set_0 | apply IsS80.set_1 | apply IsS80.set_2 | apply IsS80.set_3 | apply IsS80.set_4 | apply IsS80.set_5 | apply IsS80.set_6 | apply IsS80.set_7) | exact HI0.out)); (case side2 => repeat (first | (with_reducible first | exact HB.out | apply below_alloc | apply pw_below_drewN | apply below_drew1 | refine below_set ?_ (IsS80.ge HI0.out)) | exact HB.out)); rintro e w7 ⟨rfl, hi, hb, hk⟩; refine ⟨_, rfl, ?_⟩; have n0_ := Aside0.mk (KeepBut.trans (by repeat (first | (with_reducible first | exact HK.out | apply KeepBut.set_ | apply keep_drewN | apply keep_drew | apply keep_alloc) | exact HK.out)) hk (.inl rfl)); have n1_ := Aside0.mk (hb); have n2_ := Aside0.mk (hi); clear HK; clear HB; clear HI0; have HK := n0_; have HB := n1_; have HI0 := n2_; clear n0_ n1_ n2_; (try clear hb); (try clear hb2); (try clear hk); (try clear hi)))
    go_ret
    exact ⟨by first | rfl | (simp [errW_none, errW_some] <;> rfl) | (simp [*, errW_none, errW_some] <;> rfl), by repeat (first | (with_reducible first | exact HI0.out | apply IsS80.alloc | apply IsS80.drewN | apply IsS80.drew | apply IsS80.set_0 | apply IsS80.set_1 | apply IsS80.set_2 | apply IsS80.set_3 | apply IsS80.set_4 | apply IsS80.set_5 | apply IsS80.set_6 | apply IsS80.set_7) | exact HI0.out), by repeat (first | (with_reducible first | exact HB.out | apply below_alloc | apply pw_below_drewN | apply below_drew1 | refine below_set ?_ (IsS80.ge HI0.out)) | exact HB.out), by repeat (first | (with_reducible first | exact HK.out | apply KeepBut.set_ | apply keep_drewN | apply keep_drew | apply keep_alloc) | exact HK.out)⟩

/-! ### mandolinelaw13_fields: function 26 -/
def mandolinelaw13_fields.f (a0 : ByteArray) (a1 : ByteArray) : Option ((List (S59))) := some (([(⟨a0, a1⟩ : S59)] : List (S59)))
set_option maxHeartbeats 8000000 in
set_option maxRecDepth 100000 in
theorem mandolinelaw13_fields.calls (a0 : ByteArray) (a1 : ByteArray) (r : List (S59)) (w : World) (h : mandolinelaw13_fields.f a0 a1 = some r) :
    Calls Tryd.prog 26 #[.string a0, .string a1] w fun e w' => ∃ v0_ : Value, e = .returned (v0_) ∧ Kd.R k59 59 w' w.heap.size (fun _ => True) v0_ r ∧ Below w.heap.size w w' := by
  have hu59 := Tryd.underlying59
  have HB := Aside0.mk (Below.refl w.heap.size w)
  have H : (some (([(⟨a0, a1⟩ : S59)] : List (S59)))) = some r := h
  clear h
  obtain ⟨y170, hy170⟩ : ∃ y_ : List (S59), y_ = (([(⟨a0, a1⟩ : S59)] : List (S59))) := ⟨_, rfl⟩
  replace H : (some y170) = some r := by first | (rw [hy170]; with_reducible exact H) | (have H2_ := (Option.bind_some _ _).symm.trans H; rw [hy170]; with_reducible exact H2_) | (have H2_ := (Option.bind_some _ _).symm.trans H; with_reducible exact H2_) | with_reducible exact H | (rw [hy170]; exact H) | exact H
  have Ny170 := Aside0.mk hy170
  clear hy170
  obtain rfl := Option.some.inj H
  go_enter Tryd.func26, Tryd.ntmps26
  go_wp2_with (first | ((with_reducible refine gate_dst (N := 8) rfl ?_); refine Kd.R_lit k59 _ 59 ?hg (N := 8) ?hd (xs := ([(⟨a0, a1⟩ : S59)] : List (S59))) (inner := [.string a0, .string a1]) (ok := fun _ => True) (okp := fun _ => True) ?hr ?hp (fun _ hk => hk) trivial (Below.refl _ _) (Nat.le_refl _) (by simp) ?_; (case hd => rfl); (case hg => rfl); (case hr => first | (go_simp; done) | (go_simp; rfl)); (case hp => exact (Reps.c2 (show Kd.M k59 _ _ _ (⟨a0, a1⟩ : S59) [.string a0, .string a1] from (k59_mkM _ _ _ (⟨a0, a1⟩ : S59) )) (Reps.none _ _))); intro v171 w3 ho4 hb hg_ hnew_; clear hg_ hnew_; (first | rw [← Ny170.out] at ho4 | (simp only [Int.reduceToNat] at ho4; rw [← Ny170.out] at ho4)); have n0_ := Aside0.mk (Kd.R_lower ho4 (below_size (by repeat (first | (with_reducible first | exact HB.out | apply below_alloc | apply pw_below_drewN | apply below_drew1) | exact HB.out)))); have n1_ := Aside0.mk (below_step (by repeat (first | (with_reducible first | exact HB.out | apply below_alloc | apply pw_below_drewN | apply below_drew1) | exact HB.out)) hb); clear HB; have HO172 := n0_; have HB := n1_; clear n0_ n1_; clear hb ho4))
  go_ret
  exact ⟨_, by first | rfl | (simp [errW_none, errW_some] <;> rfl) | (simp [*, errW_none, errW_some] <;> rfl), by (with_reducible repeat (first | apply Kd.R_alloc | apply Kd.R_drewN | apply Kd.R_drew)); exact HO172.out, by repeat (first | (with_reducible first | exact HB.out | apply below_alloc | apply pw_below_drewN | apply below_drew1) | exact HB.out)⟩

end Go.Proofs.YteneioapchhehaaDoor.PFr
