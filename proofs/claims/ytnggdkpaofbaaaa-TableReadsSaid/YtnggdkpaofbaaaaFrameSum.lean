/- The walks of the checks: frame.Sum and the reference's. -/
import Derived.Test.YtnggdkpaofbaaaaArr
import Derived.Test.YtnggdkpaofbaaaaAppend
import Derived.Test.YtnggdkpaofbaaaaFramePure
import Derived.Test.YtnggdkpaofbaaaaRef01
namespace Go.Proofs.Ytnggdkpaofbaaaa
open Go.RowKit
set_option linter.unusedVariables false

theorem bit0 (x : W) : (x &&& 1#32).toNat = if x.getLsbD 0 then 1 else 0 := by
  rw [BitVec.toNat_and, show (1#32).toNat = 1 from rfl, Nat.and_one_is_mod, BitVec.getLsbD, Nat.testBit_zero]
  by_cases h : x.toNat % 2 = 1
  · simp [h]
  · simp [h]; omega
theorem half_int (x : W) : (x.toNat : Int) / (2 : Int) = ((x >>> 1).toNat : Int) := by
  rw [BitVec.toNat_ushiftRight, Nat.shiftRight_eq_div_pow]; omega
theorem cstep_int (x : W) : Go.bits .xor .u32 ((x.toNat : Int) / 2) (Go.bits .and .u32 2197175160 (-Go.bits .and .u32 (x.toNat : Int) 1 % 4294967296)) = ((cstep x).toNat : Int) := by
  have e1 : Go.bits .and .u32 (x.toNat : Int) 1 = ((x &&& 1#32).toNat : Int) := u32_and x 1#32
  have e2 : (x.toNat : Int) / (2 : Int) = ((x >>> 1).toNat : Int) := half_int x
  rw [e1, bit0, e2, cstep]
  cases x.getLsbD 0 with
  | true =>
    have : Go.bits .and .u32 2197175160 (-((if true = true then 1 else 0 : Nat) : Int) % 4294967296) = ((poly &&& BitVec.allOnes 32).toNat : Int) := u32_and poly (BitVec.allOnes 32)
    rw [this, BitVec.and_allOnes, u32_xor]
    rfl
  | false =>
    have : Go.bits .and .u32 2197175160 (-((if false = true then 1 else 0 : Nat) : Int) % 4294967296) = ((poly &&& 0#32).toNat : Int) := u32_and poly 0#32
    rw [this, BitVec.and_zero, u32_xor]
    rfl

set_option maxRecDepth 50000 in
set_option maxHeartbeats 1000000 in
theorem fsum_calls (A : Option Addr) (n c : Nat) (bs : List UInt8) (w : World) (hb : Cells w A (bv bs)) (hn : bs.length = n) (hl : n ≤ 140737488351232) :
    Calls Try.prog 72 #[.slice A n c] w fun e w' => e = .returned (wv (crc bs)) ∧ w = w' := by
  subst hn
  go_enter Try.func72, Try.ntmps72
  go_wp2
  go_loop [3, 8] (fun v i => ∃ k : Nat, k ≤ bs.length ∧ i = .int .i64 k ∧ v = wv (crcFrom (BitVec.allOnes 32) (bs.take k))) (fun _ i => bs.length - (intOf i).toNat)
  case atStart => exact ⟨0, Nat.zero_le _, rfl, rfl⟩
  case round =>
    obtain ⟨k, hk, rfl, rfl⟩ := hrel
    by_cases hlt : k < bs.length
    · obtain ⟨x, hx, hcell⟩ := hb.byte hlt
      subst hx
      go_wp2
      rw [wb_int, u32_xor]
      obtain ⟨s0, hs0⟩ : ∃ s0, s0 = crcFrom (BitVec.allOnes 32) (bs.take k) ^^^ wb bs[k] := ⟨_, rfl⟩
      have hs1 : cbyte (crcFrom (BitVec.allOnes 32) (bs.take k)) bs[k] = csteps s0 8 := by rw [hs0]; rfl
      rw [show crcFrom (4294967295#32) (List.take k bs) = crcFrom (BitVec.allOnes 32) (bs.take k) from rfl, ← hs0]
      have HS := Lib.hid hs1
      clear hs0 hs1
      go_loop [3, 16] (fun v i => ∃ j : Nat, j ≤ 8 ∧ i = .int .i64 j ∧ v = wv (csteps s0 j)) (fun _ i => 8 - (intOf i).toNat)
      case atStart => exact ⟨0, by omega, rfl, rfl⟩
      case round =>
        obtain ⟨j, hj, rfl, rfl⟩ := hrel
        by_cases h8 : j < 8
        · go_wp2
          go_round
          case rel =>
            refine ⟨j + 1, by omega, by go_num, ?_⟩
            rw [cstep_int]
            rfl
          case measure => simp [intOf]; omega
        · obtain rfl : j = 8 := by omega
          go_wp2
          go_round
          case rel => exact ⟨k + 1, by omega, by go_num, by rw [crcFrom_take _ _ _ hlt, HS.out]⟩
          case measure => simp [intOf]; omega
    · go_wp2
      go_ret
      have : k = bs.length := by omega
      subst this
      rw [show (IntKind.u32.max : Int) = 4294967295 from rfl, u32_not, List.take_length]
      exact ⟨rfl, rfl⟩

theorem bit_of (x : W) : (((x.toNat : Int) % 2 == 1) : Bool) = x.getLsbD 0 := by
  rw [BitVec.getLsbD, Nat.testBit_zero, Bool.eq_iff_iff, beq_iff_eq, decide_eq_true_iff]; omega
theorem bit_at (b : UInt8) (j : Nat) : (Int.tmod ((b.toNat : Int) / 2 ^ j) 2 == 1 : Bool) = (wb b).getLsbD j := by
  have e : ((b.toNat : Int) / 2 ^ j) = ((b.toNat / 2 ^ j : Nat) : Int) := by rw [Int.natCast_ediv, Int.natCast_pow]; rfl
  rw [BitVec.getLsbD, wb_nat, Nat.testBit_eq_decide_div_mod_eq, Bool.eq_iff_iff, beq_iff_eq, decide_eq_true_iff, e, Int.tmod_eq_emod_of_nonneg (Int.natCast_nonneg _)]
  omega
theorem half_wv (x : W) : Value.int .u32 ((x.toNat : Int) / 2) = wv (x >>> 1 ^^^ 0#32) := by rw [half_int, BitVec.xor_zero]
theorem half_poly (x : W) : Value.int .u32 (Go.bits .xor .u32 ((x.toNat : Int) / 2) 2197175160) = wv (x >>> 1 ^^^ poly) := by
  rw [half_int]
  have : Go.bits .xor .u32 ((x >>> 1).toNat : Int) 2197175160 = ((x >>> 1 ^^^ poly).toNat : Int) := u32_xor (x >>> 1) poly
  rw [this]
theorem u32_flip (x : W) : (4294967295 - (x.toNat : Int)) = ((~~~x).toNat : Int) := by
  rw [BitVec.toNat_not]; have := x.isLt; omega
theorem bsteps_crc (s : W) (c : UInt8) : cbyte s c = bsteps s c 8 := cbyte_bits s c

set_option maxRecDepth 50000 in
set_option maxHeartbeats 1000000 in
theorem frsum_calls (bs : List UInt8) (w : World) (hl : bs.length ≤ 140737488351232) :
    Calls Try.prog 79 #[.string (bstr bs)] w fun e w' => e = .returned (wv (crc bs)) ∧ w = w' := by
  have hsz := bstr_size bs
  go_enter Try.func79, Try.ntmps79
  go_wp2
  go_loop [3, 4] (fun v i => ∃ k : Nat, k ≤ bs.length ∧ i = .int .i64 k ∧ v = wv (crcFrom (BitVec.allOnes 32) (bs.take k))) (fun _ i => bs.length - (intOf i).toNat)
  case atStart => exact ⟨0, Nat.zero_le _, rfl, rfl⟩
  case round =>
    obtain ⟨k, hk, rfl, rfl⟩ := hrel
    by_cases hlt : k < bs.length
    · obtain ⟨b, hb⟩ : ∃ b, b = bs[k] := ⟨_, rfl⟩
      have hget : ∀ h' : k < (bstr bs).size, (bstr bs)[k]'h' = b := fun h' => (bstr_get hlt h').trans hb.symm
      go_wp2
      obtain ⟨s0, hs0⟩ : ∃ s0, s0 = crcFrom (BitVec.allOnes 32) (bs.take k) := ⟨_, rfl⟩
      have hs1 : crcFrom (BitVec.allOnes 32) (bs.take (k + 1)) = bsteps s0 b 8 := by rw [crcFrom_take _ _ _ hlt, hs0, hb, bsteps_crc]
      rw [show crcFrom (4294967295#32) (List.take k bs) = crcFrom (BitVec.allOnes 32) (bs.take k) from rfl, ← hs0]
      have HS := Lib.hid hs1
      clear hs0 hs1 hb
      go_loop [3, 5] (fun v i => ∃ j : Nat, j ≤ 8 ∧ i = .int .i64 j ∧ v = wv (bsteps s0 b j)) (fun _ i => 8 - (intOf i).toNat)
      case atStart => exact ⟨0, by omega, rfl, rfl⟩
      case round =>
        obtain ⟨j, hj, rfl, rfl⟩ := hrel
        by_cases h8 : j < 8
        · obtain ⟨s1, hs1⟩ : ∃ s1, s1 = bsteps s0 b j := ⟨_, rfl⟩
          have hs2 : bsteps s0 b (j + 1) = bstep s1 ((wb b).getLsbD j) := by rw [hs1]; rfl
          rw [← hs1]
          have HJ := Lib.hid hs2
          clear hs1 hs2
          have hb0 := bit_of s1
          have hbj := bit_at b j
          cases eA : s1.getLsbD 0 <;> cases eB : (wb b).getLsbD j
          all_goals
            rw [eA] at hb0
            rw [eB] at hbj
            go_wp2
            go_round
            case rel =>
              refine ⟨j + 1, by omega, by go_num, ?_⟩
              rw [HJ.out, bstep, eA, eB]
              first
                | exact half_wv s1
                | exact half_poly s1
            case measure => simp [intOf]; omega
        · obtain rfl : j = 8 := by omega
          go_wp2
          go_round
          case rel => exact ⟨k + 1, by omega, by go_num, by rw [HS.out]⟩
          case measure => simp [intOf]; omega
    · go_wp2
      go_ret
      have : k = bs.length := by omega
      subst this
      rw [List.take_length]
      exact ⟨ret_int (u32_flip (crcFrom (BitVec.allOnes 32) bs)), rfl⟩
end Go.Proofs.Ytnggdkpaofbaaaa
