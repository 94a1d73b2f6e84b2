/- A sum's eight bytes: the program's and the reference's, both as 'bytes8'. -/
import Derived.Test.YtjnpmleehapkcaaArr
import Derived.Test.YtjnpmleehapkcaaFnv
import Derived.Test.YtjnpmleehapkcaaFnvGoes
namespace Go.Proofs.Ytjnpmleehapkcaa
open Go.RowKit
set_option linter.unusedVariables false

/-- The i-th byte, the highest first. -/
def byteAt (n : BitVec 64) (i : Nat) : UInt8 := UInt8.ofNat (n.toNat / 2 ^ (56 - 8 * i))
def bytes8 (n : BitVec 64) : List UInt8 := [byteAt n 0, byteAt n 1, byteAt n 2, byteAt n 3, byteAt n 4, byteAt n 5, byteAt n 6, byteAt n 7]
/-- The array when the first k are written. -/
def arr8 (n : BitVec 64) (k : Nat) : Array Value := ((List.range 8).map fun i => if i < k then Value.int .u8 (byteAt n i).toNat else Value.int .u8 0).toArray
theorem arr8_size (n : BitVec 64) (k : Nat) : (arr8 n k).size = 8 := by simp [arr8]
theorem arr8_set (n : BitVec 64) (k : Nat) (hk : k < 8) : (arr8 n k).setIfInBounds k (.int .u8 (byteAt n k).toNat) = arr8 n (k + 1) := by
  match k, hk with
  | 0, _ => rfl
  | 1, _ => rfl
  | 2, _ => rfl
  | 3, _ => rfl
  | 4, _ => rfl
  | 5, _ => rfl
  | 6, _ => rfl
  | 7, _ => rfl
theorem arr8_zero (n : BitVec 64) : arr8 n 0 = #[.int .u8 0, .int .u8 0, .int .u8 0, .int .u8 0, .int .u8 0, .int .u8 0, .int .u8 0, .int .u8 0] := rfl
theorem arr8_all (n : BitVec 64) : (arr8 n 8).toList = bv (bytes8 n) := rfl

theorem byteAt_int (n : BitVec 64) (k : Nat) : (n.toNat : Int) / 2 ^ (56 - 8 * k) % 256 = ((byteAt n k).toNat : Int) := by
  unfold byteAt
  rw [UInt8.toNat_ofNat']
  have : ((2 : Int) ^ (56 - 8 * k)) = ((2 ^ (56 - 8 * k) : Nat) : Int) := by simp
  rw [this]
  omega

theorem fnvBytes_calls (n : BitVec 64) (w : World) :
    Calls Try.prog 12 #[.int .u64 n.toNat] w fun e w' => e = .returned (.agg (arr8 n 8)) ∧ Ext w w' := by
  have hn := n.isLt
  go_enter Try.func12, Try.ntmps12
  go_wp2
  go_loopw [5] (fun i wr => ∃ k : Nat, k ≤ 8 ∧ i = .int .i64 k ∧ Ext w wr ∧ Blk wr w.heap.size 33 (arr8 n 0) ∧ Blk wr (w.heap.size + 1) 33 (arr8 n k)) (fun i _ => 8 - (intOf i).toNat)
  case atStart => exact ⟨0, by omega, rfl, ((Ext.refl _).alloc _).alloc _, (Blk.new w _ _).alloc _, Blk.new_at (by simp) _ _⟩
  case round =>
    obtain ⟨k, hk, rfl, hx, h1, h2⟩ := hrel
    by_cases hlt : k < 8
    · have hcell := h2.cell_ (i := k) (by rw [arr8_size]; omega)
      have hfr := h2.frozen k
      go_wp2
      go_roundw
      case rel =>
        refine ⟨k + 1, by omega, by go_num, hx.set (by simp) _, h1.far (by simp) _, ?_⟩
        rw [byteAt_int n k]
        have := h2.set k (.int .u8 (byteAt n k).toNat)
        rwa [arr8_set n k hlt] at this
      case measure => simp [intOf]; omega
    · obtain rfl : k = 8 := by omega
      go_wp2_with (first
        | (refine wpList_load_blk rfl 33 (.tmp 3) rfl (w.heap.size + 1) rfl _ _ _ h2 Try.underlying33 rfl (by kernel_rfl) ?_)
        | (refine wpList_store_blk rfl 33 (.tmp 2) (.tmp 17) rfl rfl w.heap.size (arr8 n 8) rfl rfl _ _ h1 rfl (by kernel_rfl) ?_ ?_; (rw [arr8_all]; exact bv_cells _); intro w3 hb3 hg3))
      exact bodyPost_ret (results_cell_row (P := Try.prog) (fn := Try.f12) rfl _ _ _ _ (arr8 n 8) _ _ rfl hb3 Try.underlying33 rfl (by kernel_rfl)) rfl ⟨rfl, hx.grown_ hg3 (by simp)⟩
/-- The array when the last k are written. -/
def arrR (n : BitVec 64) (k : Nat) : Array Value := ((List.range 8).map fun i => if 8 - k ≤ i then Value.int .u8 (byteAt n i).toNat else Value.int .u8 0).toArray
theorem arrR_size (n : BitVec 64) (k : Nat) : (arrR n k).size = 8 := by simp [arrR]
theorem arrR_set (n : BitVec 64) (k : Nat) (hk : k < 8) : (arrR n k).setIfInBounds (7 - k) (.int .u8 (byteAt n (7 - k)).toNat) = arrR n (k + 1) := by
  match k, hk with
  | 0, _ => rfl
  | 1, _ => rfl
  | 2, _ => rfl
  | 3, _ => rfl
  | 4, _ => rfl
  | 5, _ => rfl
  | 6, _ => rfl
  | 7, _ => rfl
theorem arrR_all (n : BitVec 64) : (arrR n 8).toList = bv (bytes8 n) := rfl
theorem byteAt_low (n : BitVec 64) (k : Nat) (hk : k < 8) : (((n.toNat / 2 ^ (8 * k)) % 256 : Nat) : Int) = ((byteAt n (7 - k)).toNat : Int) := by
  unfold byteAt
  rw [UInt8.toNat_ofNat']
  have : 56 - 8 * (7 - k) = 8 * k := by omega
  rw [this]

theorem refBytes_calls (n : BitVec 64) (w : World) :
    Calls Try.prog 14 #[.int .u64 n.toNat] w fun e w' => e = .returned (.string (bstr (bytes8 n))) ∧ Ext w w' := by
  have hn := n.isLt
  go_enter Try.func14, Try.ntmps14
  go_wp2
  go_loopg [0, 4] 8 (fun r v i wr => r ≤ 8 ∧ i = .int .i64 ((r : Int) - 1) ∧ v = .int .u64 ((n.toNat / 2 ^ (8 * (8 - r)) : Nat) : Int) ∧ Ext w wr ∧ Blk wr w.heap.size 33 (arrR n (8 - r)))
  case atStart => exact ⟨by omega, rfl, by simp, (Ext.refl _).alloc _, (Blk.new w _ _)⟩
  case round =>
    obtain ⟨hk, rfl, rfl, hx, h1⟩ := hrel
    have hq : n.toNat / 2 ^ (8 * (8 - gk)) < 18446744073709551616 := Nat.lt_of_le_of_lt (Nat.div_le_self _ _) hn
    obtain ⟨q, hqq⟩ : ∃ q : Nat, q = n.toNat / 2 ^ (8 * (8 - gk)) := ⟨_, rfl⟩
    rw [← hqq] at hq
    rw [← hqq]
    have Hq := Lib.hid hqq
    clear hqq
    cases gk with
    | succ j =>
      have hcell := h1.cell_ (i := j) (by rw [arrR_size]; omega)
      have hfr := h1.frozen j
      rw [show ((j + 1 : Nat) : Int) - 1 = (j : Int) by omega]
      go_wp2
      go_roundg j
      case measure => omega
      case rel =>
        have hqq := Hq.out
        subst hqq
        have e7 : 7 - (8 - (j + 1)) = j := by omega
        have hd : n.toNat / 2 ^ (8 * (8 - (j + 1))) / 256 = n.toNat / 2 ^ (8 * (8 - j)) := by
          rw [Nat.div_div_eq_div_mul]
          have : 8 * (8 - j) = 8 * (8 - (j + 1)) + 8 := by omega
          rw [this, Nat.pow_add]
        have hv := byteAt_low n (8 - (j + 1)) (by omega)
        rw [e7] at hv
        refine ⟨by omega, rfl, ?_, hx.set (by simp) _, ?_⟩
        · rw [← hd]; rfl
        · have := h1.set j (.int .u8 (byteAt n j).toNat)
          rw [← hv] at this
          have hs := arrR_set n (8 - (j + 1)) (by omega)
          rw [e7, ← hv, show 8 - (j + 1) + 1 = 8 - j by omega] at hs
          rw [hs] at this
          exact this
    | zero =>
      have hcv := conv_str (P := Try.prog) Try.underlying23 Try.underlying5 Try.underlying9 (c := 8) (bs := bytes8 n) (n := 8) rfl (by rw [← arrR_all]; exact h1.cells)
      go_wp2
      go_ret
      exact ⟨rfl, hx⟩
end Go.Proofs.Ytjnpmleehapkcaa
