/- FrameChunks: the law's walk. -/
import Derived.Test.YteneioapchhehaaDoorChkL
namespace Go.Proofs.YteneioapchhehaaDoor
open Go.RowKit

theorem putL_short (p : List UInt8) (h : p.length < 16 ^ 12) : (putL p).length ≤ p.length + 16 := by
  unfold putL
  split
  · simp
  · have := hexL_len p.length 11 h
    simp only [List.length_append, List.length_cons, List.length_nil]
    omega
theorem putsL_short : ∀ (ls : List (List UInt8)) (_ : ∀ l ∈ ls, l.length < 16 ^ 12), (putsL ls).length ≤ ls.flatten.length + 16 * ls.length
  | [], _ => by simp [putsL]
  | l :: ls, h => by
    have e : putsL (l :: ls) = putL l ++ putsL ls := rfl
    have h1 := putL_short l (h l List.mem_cons_self)
    have h2 := putsL_short ls (fun x hx => h x (List.mem_cons_of_mem _ hx))
    rw [e, List.length_append, List.flatten_cons, List.length_append, List.length_cons]
    omega

theorem chunks_eq (l m : List UInt8) (n : Nat) (hn : 1 ≤ n) (hl : l.length ≤ 600) :
    takeA ⟨0, 0, 0, 0⟩ (wholeL l n ++ m) = (⟨10, 0, 0, 0⟩, l, (wholeL l n).length, true) ∧ (wholeL l n).length ≤ 20000 := by
  have h : ∀ x ∈ piecesL l n, x.length < 16 ^ 12 := fun x hx => by
    have := pieces_len l n x hx
    have e : (16 : Nat) ^ 12 = 281474976710656 := by decide
    omega
  have h1 := takeA_puts (piecesL l n) h m
  rw [pieces_flat l n hn, ← whole_pieces] at h1
  refine ⟨h1, ?_⟩
  have h3 := putsL_short (piecesL l n) h
  rw [pieces_flat l n hn] at h3
  have h4 : (piecesL l n).length ≤ l.length := by unfold piecesL; rw [List.length_map]; exact cidx_len n l.length l.length 0
  rw [whole_pieces, List.length_append]
  have : lastL.length = 5 := rfl
  omega

set_option maxHeartbeats 2000000 in
set_option maxRecDepth 100000 in
theorem Chunks_big (w : World) (hG : Gw w) (ao co : Option Addr) (l n c e : Nat) (k : Int) (h : 200 < l ∨ 300 < n) :
    Calls Tryd.prog 9 #[.slice ao l c, .int .i64 k, .slice co n e] w fun e w' => e = .returned (.bool true) ∧ Below w.heap.size w w' := by
  have HG := Lib.hid hG
  clear hG
  obtain ⟨q1, t1⟩ : ∃ q, decide ((200 : Int) < (l : Int)) = q := ⟨_, rfl⟩
  obtain ⟨q3, t3⟩ : ∃ q, decide ((300 : Int) < (n : Int)) = q := ⟨_, rfl⟩
  have hq : (q1 || q3) = true := by
    rw [← t1, ← t3]; simp; omega
  clear h
  go_enter Tryd.func9, Tryd.ntmps9
  go_wp2_with fail
  refine (awake_calls _ HG.out).mono ?_
  rintro e w1 ⟨rfl, hb1⟩
  have HB1 := Lib.hid hb1
  clear hb1
  cases q1
  · cases q3
    · cases hq
    · go_wp2_with fail
      refine (awake_calls _ (HG.out.below HB1.out)).mono ?_
      rintro e w2 ⟨rfl, hb2⟩
      have HB2 := Lib.hid (HB1.out.trans (hb2.mono HB1.out.size))
      clear hb2
      go_wp2_with fail
      go_ret
      exact ⟨rfl, HB2.out⟩
  · go_wp2_with fail
    refine (awake_calls _ (HG.out.below HB1.out)).mono ?_
    rintro e w2 ⟨rfl, hb2⟩
    have HB2 := Lib.hid (HB1.out.trans (hb2.mono HB1.out.size))
    clear hb2
    go_wp2_with fail
    go_ret
    exact ⟨rfl, HB2.out⟩

set_option maxHeartbeats 8000000 in
set_option maxRecDepth 100000 in
theorem Chunks_calls (w : World) (hG : Gw w) (ao : Option Addr) (l : List UInt8) (c : Nat) (hlc : l.length ≤ c) (h1 : Bs w ao l) (_hn1 : ao = none → c = 0) (k0 : Int) (hk0 : (Lit.int .i64 k0).wf = true)
    (co : Option Addr) (n : List UInt8) (f : Nat) (hnf : n.length ≤ f) (h3 : Bs w co n) (_hn3 : co = none → f = 0) :
    Calls Tryd.prog 9 #[.slice ao l.length c, .int .i64 k0, .slice co n.length f] w fun e w' => e = .returned (.bool true) ∧ Below w.heap.size w w' := by
  by_cases hbig : 200 < l.length ∨ 300 < n.length
  · exact Chunks_big w hG ao co _ _ c f k0 hbig
  have t1 : decide ((200 : Int) < (l.length : Int)) = false := decide_eq_false (by omega)
  have t3 : decide ((300 : Int) < (n.length : Int)) = false := decide_eq_false (by omega)
  have HG := Lib.hid hG
  have HX := Lib.hid hG.gv.lt
  have H1 := Lib.hid h1
  have H3 := Lib.hid h3
  have HL : Hid (l.length ≤ 200 ∧ n.length ≤ 300) := Lib.hid (by omega)
  have HF := Lib.hid hnf
  have HLC := Lib.hid hlc
  have hkm : k0 ≤ 9223372036854775807 := by
    have h1' : IntKind.i64.max = 9223372036854775807 := rfl
    simp [Lit.wf, h1'] at hk0
    omega
  clear hG h1 h3 _hn1 _hn3 hlc hnf hbig hk0
  by_cases hk : k0 < 1
  · have t4 : decide (k0 < (1 : Int)) = true := decide_eq_true hk
    have HK := Lib.hid hk
    clear hkm hk
    go_enter Tryd.func9, Tryd.ntmps9
    go_wp2_with fail
    refine (awake_calls _ HG.out).mono ?_
    rintro e w1 ⟨rfl, hb1⟩
    have HB1 := Lib.hid hb1
    clear hb1
    go_wp2_with fail
    refine (Whole_err _ _ k0 HK.out).mono ?_
    rintro e w' ⟨rfl, rfl⟩
    go_wp2_with fail
    go_ret
    exact ⟨rfl, HB1.out⟩
  · obtain ⟨k, rfl⟩ : ∃ k : Nat, k0 = k := ⟨k0.toNat, by omega⟩
    have HK : Hid (1 ≤ k ∧ k ≤ 9223372036854775807) := Lib.hid (by omega)
    have hce := fun m => chunks_eq l m k (by omega) (by have := HL.out; omega)
    obtain ⟨W, hW⟩ : ∃ W, wholeL l k = W := ⟨_, rfl⟩
    rw [hW] at hce
    have HCE := Lib.hid hce
    have HW := Lib.hid hW
    obtain ⟨T, hT⟩ : ∃ T, ([] ++ W) ++ (⟨#[71, 69, 84, 32, 47]⟩ : ByteArray).data.toList = T := ⟨_, rfl⟩
    have HT := Lib.hid hT
    have HTL : Hid (T.length ≤ 20005) := Lib.hid (by rw [← hT]; have := (hce []).2; simp; omega)
    have HRL : Hid (readL n T.length (frNew 2 0) T 0 [] 0 = (l, W.length, true, ⟨2, 0, false, ⟨10, 0, 0, 0⟩⟩)) := Lib.hid (by
      have e1 : takeA ⟨0, 0, 0, 0⟩ T = (⟨10, 0, 0, 0⟩, l, W.length, true) := by rw [← hT, List.nil_append]; exact (hce _).1
      have := readL_chunk n T.length ⟨0, 0, 0, 0⟩ T 0 [] 0 RdI.zero (Nat.le_refl _) (by rw [e1]) (by rw [e1])
      rw [e1] at this
      simpa [frNew] using this)
    have HWL : Hid (W.length ≤ 20000) := Lib.hid (hce []).2
    clear hkm hk hce hW hT
    go_enter Tryd.func9, Tryd.ntmps9
    go_wp2_with fail
    refine (awake_calls _ HG.out).mono ?_
    rintro e w1 ⟨rfl, hb1⟩
    have HB1 := Lib.hid hb1
    clear hb1
    go_wp2_with fail
    refine (Whole_calls w1 (HG.out.below HB1.out).gv.tz ao l c (Nat.le_trans HL.out.1 (by decide)) HLC.out (H1.out.below HB1.out) k HK.out.1 HK.out.2).mono ?_
    rw [HW.out]
    rintro e w0 ⟨v0, rfl, ho0, hb0⟩
    obtain ⟨a0, c0, rfl, hs0, -, -, hn0⟩ := ho0.bs'
    have HS0 := Lib.hid hs0
    have HN0 := Lib.hid hn0
    have HB0 : Hid (Below w.heap.size w w0) := Lib.hid (HB1.out.trans (hb0.mono HB1.out.size))
    clear ho0 hb0 hs0 hn0 HB1
    go_wp2_with fail
    refine (fNew_ok w0 2 0 (by decide)).mono ?_
    rintro e w2 ⟨g, rfl, hr2, hb2⟩
    have HR2 := Lib.hid hr2
    have HN := Lib.hid HB0.out.size
    have HGC : Hid (0 < w0.heap.size) := Lib.hid (Nat.lt_of_lt_of_le HX.out.2 HN.out)
    have HB2 : Hid (Below w.heap.size w w2) := Lib.hid (HB0.out.trans (hb2.mono HB0.out.size))
    have HS2 := Lib.hid (HS0.out.below hb2)
    obtain ⟨gc, hgc⟩ : ∃ gc, w0.heap.size = gc := ⟨_, rfl⟩
    rw [hgc] at HR2 HN HGC
    clear hr2 hb2 HB0 hgc HS0
    have HGG := Lib.hid HR2.out.1
    have HLW := Lib.hid (Ow.lit0 w2 w2.heap.size (Nat.le_refl _))
    have HBW := Lib.hid ((Below.refl w2.heap.size w2).alloc (Nat.le_refl _) (.cells #[] 5))
    have HBs1 := Lib.hid (HS2.out.below HBW.out)
    have HS1 : Hid ((([] : List UInt8)).length + W.length ≤ 70368744177664) := Lib.hid (by have := HWL.out; simp; omega)
    have HSz : Hid ((([] : List UInt8) ++ W).length + (⟨#[71, 69, 84, 32, 47]⟩ : ByteArray).size ≤ 70368744177664) := Lib.hid (by have := HWL.out; have : (⟨#[71, 69, 84, 32, 47]⟩ : ByteArray).size = 5 := rfl; rw [List.nil_append]; omega)
    go_wp2_with (first
      | (at_builtin; refine wp_app rfl _ _ rfl w2.heap.size (.slice (some ⟨w2.heap.size, 0, none⟩) 0 0) _ rfl HLW.out a0 _ _ rfl W rfl HBs1.out HN0.out HS1.out HBW.out.size ?_; intro v3 w3 hown hgr _; have HB3 := Lib.hid (Below.own HBW.out HLW.out hgr (Nat.le_refl _)); have HO3 := Lib.hid hown; clear hown hgr HLW)
      | (at_builtin; refine wp_app_str rfl _ _ rfl w2.heap.size v3 _ rfl HO3.out ⟨#[71, 69, 84, 32, 47]⟩ rfl HSz.out HB3.out.size ?_; intro v4 w4 hown hgr _; have HB4 := Lib.hid (Below.own HB3.out HO3.out hgr (Nat.le_refl _)); rw [HT.out] at hown; obtain ⟨a4, c4, rfl, hs4, hc4, -, hn4⟩ := hown.bs'; have HS4 := Lib.hid hs4; have HC4 := Lib.hid hc4; have HN4 := Lib.hid hn4; clear hown hgr HO3 hs4 hc4 hn4))
    have HB4' : Hid (Below w.heap.size w w4) := Lib.hid (HB2.out.trans (HB4.out.mono HB2.out.size))
    have HR4 := Lib.hid (HR2.out.below HB4.out)
    refine (fread_calls w4 g gc _ (frNew_I (by decide)) HR4.out (HG.out.below HB4'.out).gv.es HGC.out a4 co T n c4 f (Nat.le_trans HTL.out (by decide)) HC4.out HN4.out HS4.out (Nat.le_trans HL.out.2 (by decide)) HF.out (H3.out.below HB4'.out)).mono ?_
    rw [HRL.out]
    rintro e w5 ⟨rfl, hr5, hi5, hc5⟩
    have HR5 := Lib.hid hr5
    have HI5 := Lib.hid hi5
    have HB5 := Lib.hid (fch_below HB4'.out hc5 HN.out HGG.out)
    have rs : (convert 43 9 (.slice ao l.length c)).run Tryd.prog w5 = .ok (.string (bs l)) w5 := run_str (n := l.length) (H1.out.below HB5.out) rfl c
    have heq : ((W.length : Int) == (W.length : Int)) = true := by simp
    have heb : ((bs l).toList == (bs l).toList) = true := by simp
    have hd5 : frDone ⟨2, 0, false, ⟨10, 0, 0, 0⟩⟩ = true := rfl
    clear hr5 hi5 hc5
    go_wp2_with (first
      | (go_at_call 17; with_reducible refine (fDone_calls w5 g gc _ HI5.out HR5.out).mono ?_; rintro e w' ⟨rfl, rfl⟩)
      | (go_at_call 20; with_reducible refine (fEnd_calls w5 g gc _ HI5.out HR5.out).mono ?_; rintro e w6 ⟨rfl, hr6, hc6⟩; have HB6 := Lib.hid (fch_below HB5.out hc6 HN.out HGG.out); clear hr6 hc6))
    go_ret
    exact ⟨rfl, HB6.out⟩
end Go.Proofs.YteneioapchhehaaDoor
