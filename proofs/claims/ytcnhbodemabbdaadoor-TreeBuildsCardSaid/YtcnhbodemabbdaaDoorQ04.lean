/- The small functions of layer 3: word, RotateLeft32, turn, three. -/
import Derived.Test.YtcnhbodemabbdaaDoorQ01
import Derived.Test.YtcnhbodemabbdaaDoorQ03
namespace Go.Proofs.YtcnhbodemabbdaaDoor
open Go.RowKit
set_option linter.unusedVariables false

theorem turn_calls (x : W) (k : Nat) (hk : k ≤ 32) (w : World) :
    Calls Tryd.prog 124 #[wv x, .int .u64 k] w fun e w' => e = .returned (wv (tr x k)) ∧ w = w' := by
  go_enter Tryd.func124, Tryd.ntmps124
  go_wp2
  go_ret
  exact ⟨ret_int (tr_int x k), rfl⟩

theorem rot_calls (x : W) (k j : Nat) (z : Int) (hz : Go.bits .and .u64 (IntKind.u64.wrap z) 31 = ((j : Nat) : Int)) (hj : j + k = 32) (w : World) :
    Calls Tryd.prog 114 #[wv x, .int .i64 z] w fun e w' => e = .returned (wv (tr x k)) ∧ w = w' := by
  have hk : j ≤ 32 := by omega
  go_enter Tryd.func114, Tryd.ntmps114
  go_wp2_with (simp only [hz])
  go_ret
  obtain rfl : 32 - j = k := by omega
  exact ⟨ret_int (tr_int' x j hk), rfl⟩

theorem word_calls (a : Option Addr) (n c : Nat) (b0 b1 b2 b3 : UInt8) (bs : List UInt8) (w : World) (h : Cells w a (bv (b0 :: b1 :: b2 :: b3 :: bs))) (hn : bs.length + 4 = n) (hl : n ≤ maxLen) :
    Calls Tryd.prog 113 #[.slice a n c] w fun e w' => e = .returned (wv (w4 b0 b1 b2 b3)) ∧ ∃ m, w' = w.drewN m := by
  go_enter Tryd.func113, Tryd.ntmps113
  obtain ⟨x, rfl, h0⟩ := h 0 _ rfl
  obtain ⟨_, e, h1⟩ := h 1 _ rfl
  cases e
  obtain ⟨_, e, h2⟩ := h 2 _ rfl
  cases e
  obtain ⟨_, e, h3⟩ := h 3 _ rfl
  cases e
  clear h
  rw [add_zero] at h0
  replace h1 : w.cell? ⟨x.block, x.off + 1, none⟩ = some (.int .u8 (b1.toNat : Int)) := h1
  replace h2 : w.cell? ⟨x.block, x.off + 2, none⟩ = some (.int .u8 (b2.toNat : Int)) := h2
  replace h3 : w.cell? ⟨x.block, x.off + 3, none⟩ = some (.int .u8 (b3.toNat : Int)) := h3
  have k0 : 0 < n := by omega
  have k1 : ((1 : Int) < (n : Int)) := by omega
  have k2 : ((2 : Int) < (n : Int)) := by omega
  have k3 : ((3 : Int) < (n : Int)) := by omega
  have d0 : decide (0 < n) = true := by simp [k0]
  go_wp2
  go_quiet (fail)
  go_wp2
  go_ret
  exact ⟨ret_int (w4_int b0 b1 b2 b3), _, rfl⟩

theorem three_calls (x : W) (i j k : Nat) (hi : i ≤ 32) (hj : j ≤ 32) (hk : k ≤ 32) (w : World) :
    Calls Tryd.prog 125 #[wv x, .int .u64 i, .int .u64 j, .int .u64 k] w fun e w' => e = .returned (wv (tr x i ^^^ tr x j ^^^ tr x k)) ∧ w = w' := by
  go_enter Tryd.func125, Tryd.ntmps125
  go_wp2_with (first | (go_at_call 124; ((with_reducible refine (turn_calls _ _ hi _).mono ?_); rintro e w' ⟨rfl, rfl⟩)) | (go_at_call 124; ((with_reducible refine (turn_calls _ _ hj _).mono ?_); rintro e w' ⟨rfl, rfl⟩)) | (go_at_call 124; ((with_reducible refine (turn_calls _ _ hk _).mono ?_); rintro e w' ⟨rfl, rfl⟩)))
  go_ret
  exact ⟨ret_int (by rw [u32_xor, u32_xor]), rfl⟩
end Go.Proofs.YtcnhbodemabbdaaDoor
