/- A part of the proofs over package chunk. -/
import Derived.Test.YtiaafndkbcpbdaaDoorCkB
import Derived.Test.YtiaafndkbcpbdaaDoorShelf
namespace Go.Proofs.YtiaafndkbcpbdaaDoor
open Go.RowKit

set_option maxHeartbeats 400000 in
theorem lower_calls (c : Int) (w : World) : Calls Tryd.prog 46 #[.int .u8 c] w fun e w' => e = .returned (.int .u8 (Go.bits .or .u8 c 32)) ∧ w = w' := by
  go_enter Tryd.func46, Tryd.ntmps46
  go_wp2
  go_ret
  exact ⟨rfl, rfl⟩

theorem bw_below (w : World) (s : ByteArray) : Below w.heap.size w (Lib.bytesWorld w 5 s) :=
  ⟨rfl, rfl, rfl, by rw [Lib.bytesWorld_size]; omega, fun k hk => Lib.bytesWorld_at_old w 5 s k hk⟩

set_option maxHeartbeats 400000 in
set_option maxRecDepth 100000 in
theorem pu_digit (b : UInt8) (h1 : 48 ≤ b.toNat) (h2 : b.toNat ≤ 57) (w : World) : Calls Tryd.prog 40 #[.string ⟨#[b]⟩, .int .i64 16, .int .i64 8] w fun e w' => e = .returned (.tuple #[.int .u64 (b.toNat - 48), .nilIface]) ∧ Below w.heap.size w w' := by
  have hc := Lib.run_convert_string_bytes (P := Tryd.prog) w 9 24 5 ⟨#[b]⟩ Tryd.underlying9 Tryd.underlying24 Tryd.underlying5
  have HB := Lib.hid (bw_below w ⟨#[b]⟩)
  go_enter Tryd.func40, Tryd.ntmps40
  go_wp2_with fail
  clear hc
  generalize hw1 : Lib.bytesWorld w 5 ⟨#[b]⟩ = w1 at *
  have c1 : w1.cell? ⟨w.heap.size, 0, none⟩ = some (.int .u8 b.toNat) := by rw [← hw1]; exact Lib.bytesWorld_cell w 5 ⟨#[b]⟩ 0 (by simp [ByteArray.size])
  clear hw1
  refine wp_loop_rounds 2 ?_
  rw [rounds_succ]
  go_wp2_with fail
  rw [rounds_succ]
  go_wp2_with fail
  go_ret2
  exact ⟨rfl, HB.out⟩

set_option maxHeartbeats 400000 in
set_option maxRecDepth 100000 in
theorem pu_letter (b : UInt8) (h0 : 57 < b.toNat) (n95 : (((b.toNat : Nat) : Int) == 95) = false) (hl : Int) (H : Hid (Go.bits .or .u8 (b.toNat : Int) 32 = hl)) (h1 : 97 ≤ hl) (h2 : hl ≤ 102) (w : World) : Calls Tryd.prog 40 #[.string ⟨#[b]⟩, .int .i64 16, .int .i64 8] w fun e w' => e = .returned (.tuple #[.int .u64 (hl - 87), .nilIface]) ∧ Below w.heap.size w w' := by
  have hc := Lib.run_convert_string_bytes (P := Tryd.prog) w 9 24 5 ⟨#[b]⟩ Tryd.underlying9 Tryd.underlying24 Tryd.underlying5
  have HB := Lib.hid (bw_below w ⟨#[b]⟩)
  go_enter Tryd.func40, Tryd.ntmps40
  go_wp2_with fail
  clear hc
  generalize hw1 : Lib.bytesWorld w 5 ⟨#[b]⟩ = w1 at *
  have c1 : w1.cell? ⟨w.heap.size, 0, none⟩ = some (.int .u8 b.toNat) := by rw [← hw1]; exact Lib.bytesWorld_cell w 5 ⟨#[b]⟩ 0 (by simp [ByteArray.size])
  clear hw1
  have lc : ∀ W, Calls Tryd.prog 46 #[.int .u8 (b.toNat : Int)] W fun e w' => e = .returned (.int .u8 hl) ∧ W = w' := fun W => by
    have := lower_calls b.toNat W
    rwa [H.out] at this
  have LC := Lib.hid lc
  clear lc
  refine wp_loop_rounds 2 ?_
  rw [rounds_succ]
  go_wp2_with (go_at_call 46; refine (LC.out _).mono ?_; rintro e w' ⟨rfl, rfl⟩)
  rw [rounds_succ]
  go_wp2_with fail
  go_ret2
  exact ⟨ret2 (iEq (by omega)) rfl, HB.out⟩


set_option maxHeartbeats 400000 in
set_option maxRecDepth 100000 in
theorem pu_bad (s : ByteArray) (b : UInt8) (hs : 0 < s.size) (hb : s.data.toList.getD 0 0 = b) (he : s.toList.isEmpty = false) (hd : (b.toNat : Int) < 48 ∨ 57 < (b.toNat : Int)) (x95 : Bool) (n95 : (((b.toNat : Nat) : Int) == 95) = x95) (hl : Int) (H : Hid (Go.bits .or .u8 (b.toNat : Int) 32 = hl)) (hn : hl < 97 ∨ 102 < hl) (hl2 : hl < 256) (w : World) : Calls Tryd.prog 40 #[.string s, .int .i64 16, .int .i64 8] w fun e w' => e = .returned (.tuple #[.int .u64 0, .iface 76 (.int .i64 2)]) ∧ Below w.heap.size w w' := by
  have hc := Lib.run_convert_string_bytes (P := Tryd.prog) w 9 24 5 s Tryd.underlying9 Tryd.underlying24 Tryd.underlying5
  have HB := Lib.hid (bw_below w s)
  have HC := Lib.hid (Lib.bytesWorld_cell w 5 s 0 hs)
  have Hb := Lib.hid hb
  clear hb
  have hs0 : (0 : Int) < s.size := by omega
  go_enter Tryd.func40, Tryd.ntmps40
  go_wp2_with fail
  clear hc
  generalize Lib.bytesWorld w 5 s = w1 at *
  have c1 : w1.cell? ⟨w.heap.size, 0, none⟩ = some (.int .u8 b.toNat) := by rw [HC.out, Hb.out]
  have lc : ∀ W, Calls Tryd.prog 46 #[.int .u8 (b.toNat : Int)] W fun e w' => e = .returned (.int .u8 hl) ∧ W = w' := fun W => by
    have := lower_calls b.toNat W
    rwa [H.out] at this
  have LC := Lib.hid lc
  clear lc
  refine wp_loop_rounds 1 ?_
  rw [rounds_succ]
  cases x95 <;> rcases hd with hd | hd <;> rcases hn with hn | hn
  all_goals
    go_wp2_with (go_at_call 46; refine (LC.out _).mono ?_; rintro e w' ⟨rfl, rfl⟩)
    all_goals
      go_ret2
      exact ⟨rfl, HB.out⟩

end Go.Proofs.YtiaafndkbcpbdaaDoor
