/- slices.Chunk, walked: the iterator, and its closure. -/
import Derived.RangeFuncNested
import Derived.RangeFuncBound
import Derived.RangeFuncCalls
import Derived.RangeFuncLeaves
import Derived.Shelf.Abstract
import Derived.Shelf.RegionOpen
import Derived.OwnWalkIn
import Derived.TacticsInMore
import Derived.LoopNIn
import Derived.LoopIn
import Derived.Test.YtiaafndkbcpbdaaDoorCkI
namespace Go.Proofs.YtiaafndkbcpbdaaDoor
open Go.RowKit Go.Shelf
attribute [local go_sem] Oper.semAt_some

/-- where the chunks of so many bytes lie: begin and length -/
def cidx (n len : Nat) : Nat → Nat → List { x : Nat × Nat // x.1 + x.2 ≤ len }
  | 0, _ => []
  | f + 1, i => if h : i < len then ⟨(i, min n (len - i)), by dsimp only; omega⟩ :: cidx n len f (i + n) else []

set_option maxHeartbeats 400000 in
theorem Chunk_calls (ao : Option Addr) (l c : Nat) (n : Int) (hn : 1 ≤ n) (w : World) :
    Calls Tryd.prog 25 #[.slice ao l c, .int .i64 n] w fun e w' => e = .returned (.func (.func 35) #[] #[.pointer (some ⟨w.heap.size, 0, none⟩), .pointer (some ⟨w.heap.size + 1, 0, none⟩)]) ∧
      (w.alloc (.cells #[.slice ao l c] 24)).alloc (.cells #[.int .i64 n] 3) = w' := by
  go_enter Tryd.func25, Tryd.ntmps25
  go_wp2
  go_ret
  exact ⟨rfl, rfl⟩

/-- two blocks stay as they are -/
def KpG (g : Nat) (W W' : World) : Prop := W'.heap[g]? = W.heap[g]? ∧ W'.heap[g + 1]? = W.heap[g + 1]?
theorem KpG.trans {g : Nat} {A B C : World} (h : KpG g A B) (k : KpG g B C) : KpG g A C := ⟨k.1.trans h.1, k.2.trans h.2⟩
theorem KpG.put {g : Nat} (W : World) (l : Nat) (o' : Obj) (hl : g + 1 < l) : KpG g W (W.putObj l o') := by
  constructor <;> (unfold World.putObj; simp only [Array.getElem?_setIfInBounds]; rw [if_neg (by omega)])

/-- a chunk as the value that comes -/
abbrev cenc (b off len : Nat) (x : { x : Nat × Nat // x.1 + x.2 ≤ len }) : Array Value := #[.slice (some ⟨b, off + x.1.1, none⟩) x.1.2 x.1.2]

set_option maxRecDepth 100000 in
set_option maxHeartbeats 2000000 in
theorem Chunk1_in (d : Nat) (hd : 1 ≤ d) (l g b off len cap : Nat) (hlen : len ≤ 1099511627776) (hcap : len ≤ cap) (n : Nat) (hn : 1 ≤ n) (hn2 : n ≤ 9223372036854775807)
    (J Jx : List { x : Nat × Nat // x.1 + x.2 ≤ len } → World → Prop)
    (hY : ∀ pre x W, J pre W → pre.length < len → YieldAt Fence.wide (d - 1) Tryd.prog l (cenc b off len x) W fun e W' =>
      (e = .returned (.bool true) ∧ J (pre ++ [x]) W' ∧ KpG g W W') ∨ (e = .returned (.bool false) ∧ Jx (pre ++ [x]) W'))
    (hJd : ∀ pre W, J pre W → J pre W.drew)
    (W : World) (hs : W.cell? ⟨g, 0, none⟩ = some (.slice (some ⟨b, off, none⟩) len cap)) (hs2 : W.cell? ⟨g + 1, 0, none⟩ = some (.int .i64 n)) (h0 : J [] W) :
    CallsIn Fence.wide d Tryd.prog 35 #[.func (.yield l) #[] #[], .pointer (some ⟨g, 0, none⟩), .pointer (some ⟨g + 1, 0, none⟩)] W fun e W' => (∃ v, e = .returned v) ∧
      ((∃ ys, ys = cidx n len len 0 ∧ J ys W') ∨ (∃ pre, True ∧ Jx pre W')) := by
  refine callsIn_of_wp Tryd.func35 rfl trivial ?_ rfl
  simp only [Tryd.ntmps35, List.size_toArray, List.length_cons, List.length_nil, Nat.reduceAdd, Nat.reduceSub, Array.replicate_succ, Array.replicate_zero, List.push_toArray, List.append_toArray, List.nil_append, List.cons_append]
  gi_wp2
  gi_loopw [4] (fun i wr => ∃ (k f : Nat) (pre : List { x : Nat × Nat // x.1 + x.2 ≤ len }), i = .int .i64 k ∧ (k = 0 ∨ n ≤ k) ∧ len ≤ k + f ∧ pre.length + f ≤ len ∧ pre ++ cidx n len f k = cidx n len len 0 ∧ J pre wr ∧ KpG g W wr)
    (fun i _ => len - (intOf i).toNat)
  case atStart => exact ⟨0, len, [], rfl, .inl rfl, by omega, by simp, by simp, h0, rfl, rfl⟩
  case round =>
    obtain ⟨k, f, pre, rfl, hk0, hkf, hpf, hpre, hJs, hnx⟩ := hrel
    have hsx := (World.cell?_of_block (w := W) (a := ⟨g, 0, none⟩) hnx.1).trans hs
    have hsx2 := (World.cell?_of_block (w := W) (a := ⟨g + 1, 0, none⟩) hnx.2).trans hs2
    by_cases hlt : k < len
    · obtain ⟨f, rfl⟩ : ∃ f', f = f' + 1 := ⟨f - 1, by omega⟩
      have hck : ¬ cap = k := by omega
      obtain ⟨m, hm⟩ : ∃ m : Nat, min (n : Int) ((len - k : Nat) : Int) = (m : Int) := ⟨min n (len - k), by omega⟩
      have hmm : min n (len - k) = m := by omega
      have hm1 : 1 ≤ m := by omega
      have hkm : k + m ≤ len := by omega
      have hkm2 : ((k : Int) + m).toNat = k + m := by omega
      have hnk : ¬ k + m = k := by omega
      have hkn : (k : Int) + n ≤ 9223372036854775807 := by omega
      have hcx : cidx n len (f + 1) k = ⟨(k, m), hkm⟩ :: cidx n len f (k + n) := by
        rw [cidx, dif_pos hlt]
        congr 1
        exact Subtype.ext (Prod.ext rfl hmm)
      have HX : Hid ((pre ++ [⟨(k, m), hkm⟩]) ++ cidx n len f (k + n) = cidx n len len 0) := Lib.hid (by rw [← hpre, hcx]; simp)
      obtain ⟨fn, tmps, assign, body, hy, hR⟩ := hY pre ⟨(k, m), hkm⟩ wr.drew (hJd _ _ hJs) (by omega)
      dsimp only [cenc] at hy
      clear hcx hpre hmm hk0
      gi_wp2
      gi_region
      gi_wp2
      refine hR.mono ?_
      rintro e W3 (⟨rfl, hJ3, hk3⟩ | ⟨rfl, hJx3⟩)
      · have hsx3 := (World.cell?_of_block (w := W) (a := ⟨g + 1, 0, none⟩) (hnx.trans hk3).2).trans hs2
        gi_wp2
        go_roundw
        case rel => exact ⟨k + n, f, pre ++ [⟨(k, m), hkm⟩], by go_num, .inr (by omega), by omega, by simp; omega, HX.out, hJ3, hnx.trans hk3⟩
        case measure => simp [intOf]; omega
      · gi_wp2
        refine bodyPost_ret (results_none rfl _ _ _) rfl ?_
        exact ⟨⟨_, rfl⟩, .inr ⟨_, trivial, hJx3⟩⟩
    · have hc0 : cidx n len f k = [] := by cases f with
        | zero => rfl
        | succ f => rw [cidx, dif_neg hlt]
      rw [hc0, List.append_nil] at hpre
      gi_wp2
      go_end0
      exact ⟨⟨_, rfl⟩, .inl ⟨_, hpre, hJs⟩⟩

set_option maxRecDepth 100000 in
set_option maxHeartbeats 1000000 in
theorem Chunk1_nil (d : Nat) (l g : Nat) (ao : Option Addr) (cap : Nat) {α : Type} (J : List α → World → Prop)
    (W : World) (hs : W.cell? ⟨g, 0, none⟩ = some (.slice ao 0 cap)) (h0 : J [] W) :
    CallsIn Fence.wide d Tryd.prog 35 #[.func (.yield l) #[] #[], .pointer (some ⟨g, 0, none⟩), .pointer (some ⟨g + 1, 0, none⟩)] W fun e W' => (∃ v, e = .returned v) ∧ J [] W' := by
  refine callsIn_of_wp Tryd.func35 rfl trivial ?_ rfl
  simp only [Tryd.ntmps35, List.size_toArray, List.length_cons, List.length_nil, Nat.reduceAdd, Nat.reduceSub, Array.replicate_succ, Array.replicate_zero, List.push_toArray, List.append_toArray, List.nil_append, List.cons_append]
  gi_wp2
  gi_loopw [4] (fun i wr => i = .int .i64 0 ∧ wr = W) (fun _ _ => 0)
  case atStart => exact ⟨rfl, rfl⟩
  case round =>
    obtain ⟨rfl, rfl⟩ := hrel
    gi_wp2
    go_end0
    exact ⟨⟨_, rfl⟩, h0⟩

theorem abides_drew {α : Type} {B : Nat} {J : List α → World → Prop} (h : AbidesFrom B J) : ∀ pre W, J pre W → J pre W.drew :=
  fun pre W hs => h pre W W.drew none hs ⟨rfl, rfl, rfl, Nat.le_refl _, fun _ _ _ => rfl⟩ nofun

/-- slices.Chunk's value: the chunks, one behind the other -/
theorem Chunk_stops (d : Nat) (hd : 1 ≤ d) (g b off len cap : Nat) (hlen : len ≤ 1099511627776) (hcap : len ≤ cap) (n : Nat) (hn : 1 ≤ n) (hn2 : n ≤ 9223372036854775807) (w : World) (hg : g + 1 < w.heap.size)
    (hs : w.cell? ⟨g, 0, none⟩ = some (.slice (some ⟨b, off, none⟩) len cap)) (hs2 : w.cell? ⟨g + 1, 0, none⟩ = some (.int .i64 n)) :
    SeqStopsK Fence.wide d Tryd.prog 35 #[.pointer (some ⟨g, 0, none⟩), .pointer (some ⟨g + 1, 0, none⟩)] (cenc b off len) (KpG g) (fun ys => ys = cidx n len len 0) (fun _ => True) len w := fun l J Jx W hW hJ hJx hY h0 =>
  Chunk1_in d hd l g b off len cap hlen hcap n hn hn2 J Jx hY (abides_drew hJ) W ((hW.cell (p := ⟨g, 0, none⟩) (by show g < w.heap.size; omega)).trans hs) ((hW.cell (p := ⟨g + 1, 0, none⟩) (by show g + 1 < w.heap.size; omega)).trans hs2) h0
/-- of no bytes: no chunk -/
theorem Chunk_stops_nil (d : Nat) (g b off : Nat) (ao : Option Addr) (cap : Nat) (w : World) (hg : g + 1 < w.heap.size) (hs : w.cell? ⟨g, 0, none⟩ = some (.slice ao 0 cap)) :
    SeqStopsK Fence.wide d Tryd.prog 35 #[.pointer (some ⟨g, 0, none⟩), .pointer (some ⟨g + 1, 0, none⟩)] (cenc b off 0) (KpG g) (fun ys => ys = []) (fun _ => True) 0 w := fun l J Jx W hW _ _ _ h0 =>
  (Chunk1_nil d l g ao cap J W ((hW.cell (p := ⟨g, 0, none⟩) (by show g < w.heap.size; omega)).trans hs) h0).mono fun _ _ ⟨h1, h2⟩ => ⟨h1, .inl ⟨[], rfl, h2⟩⟩
end Go.Proofs.YtiaafndkbcpbdaaDoor
