/- The walks of package code's writers: Uint, Int, Text, Size. -/
import Derived.Test.YtcnhbodemabbdaaDoorQ09
import Derived.Test.YtcnhbodemabbdaaDoorQ01
import Derived.Test.YtcnhbodemabbdaaDoorQ11
import Derived.Test.YtcnhbodemabbdaaDoorQ08
namespace Go.Proofs.YtcnhbodemabbdaaDoor
open Go.RowKit
set_option linter.unusedVariables false

set_option maxRecDepth 20000 in
theorem or128 (j : Nat) (h : 128 ≤ j) : bits .or .u8 ((j : Int) % 256) 128 = (((UInt8.ofNat (j % 128 + 128)).toNat : Nat) : Int) := by
  rw [ofNat_small (by omega)]
  have e : (BitVec.ofInt 8 ((j : Int) % 256) ||| BitVec.ofInt 8 128).toNat = j % 128 + 128 := by
    have e1 : BitVec.ofInt 8 ((j : Int) % 256) = BitVec.ofNat 8 j := by
      apply BitVec.eq_of_toNat_eq
      rw [BitVec.toNat_ofInt, BitVec.toNat_ofNat]
      omega
    have e2 : BitVec.ofInt 8 128 = 128#8 := by decide
    rw [e1, e2, BitVec.toNat_or, BitVec.toNat_ofNat]
    have h8 : ∀ x : Fin 256, x.val ||| (128#8).toNat = x.val % 128 + 128 := by decide
    have := h8 ⟨j % 2 ^ 8, by omega⟩
    simp only at this
    rw [this]
    omega
  show IntKind.u8.wrap (((BitVec.ofInt 8 ((j : Int) % 256) ||| BitVec.ofInt 8 128).toNat : Nat) : Int) = _
  rw [e]
  simp only [IntKind.wrap, IntKind.bits, IntKind.signed]
  simp
  omega

theorem byte_small (j : Nat) (h : j < 128) : ((j : Int) % 256) = (((UInt8.ofNat j).toNat : Nat) : Int) := by
  rw [ofNat_small (by omega)]; omega

set_option maxRecDepth 50000 in
theorem uint_calls (A : Option Addr) (n c : Nat) (bs : List UInt8) (m : Nat) (w : World) (hb : Cells w A (bv bs)) (hn : bs.length = n) (hc : n ≤ c) (hl : n ≤ 140737488351232) (hm : m < 18446744073709551616) :
    Calls Tryd.prog 112 #[.slice A n c, .int .u64 m] w fun e w' => ∃ v, e = .returned v ∧ Own w.heap.size w' v (bs ++ uintB m) ∧ Ext w w' := by
  subst hn
  have hs10 := Lib.hid (sizeN_64 hm)
  clear hm
  go_enter Tryd.func112, Tryd.ntmps112
  go_wp2
  go_loopg [0, 1] (sizeN m) (fun r v q wr => ∃ (j : Nat) (pre : List UInt8), q = .int .u64 j ∧ j ≤ m ∧ Aside (r = sizeN j ∧ pre.length + sizeN j = sizeN m ∧ pre ++ uintB j = uintB m) ∧ Aside (Tail w.heap.size wr v (bs ++ pre)) ∧ Ext w wr)
  case atStart => exact ⟨m, [], rfl, Nat.le_refl _, ⟨rfl, by simp, rfl⟩, by rw [List.append_nil]; exact Tail.clip rfl hb, Ext.refl _⟩
  case round =>
    obtain ⟨j, pre, rfl, hj, hA, hT, hx⟩ := hrel
    have hpl : pre.length ≤ 10 := by have := hA.out.2.1; have := hs10.out; omega
    by_cases hlt : 128 ≤ j
    · obtain ⟨c0, hc0⟩ : ∃ c0, c0 = UInt8.ofNat (j % 128 + 128) := ⟨_, rfl⟩
      have hor := or128 j hlt
      rw [← hc0] at hor
      have HC := Lib.hid hc0
      clear hc0
      obtain ⟨r, rfl⟩ : ∃ r, gk = r + 1 := ⟨sizeN (j / 128), by have := hA.out.1; unfold sizeN at this ⊢; rw [uintB_ge (by omega)] at this; simpa using this⟩
      go_wp2_with (at_builtin; refine wpList_append_tail _ rfl (.tmp 15) (.tmp 19) rfl w.heap.size u0 (bs ++ pre) rfl (Tail.ext hT.out ((Ext.refl _).alloc _)) (some ⟨wr.heap.size, 0, none⟩) 1 1 [c0] rfl rfl (by omega) (Cells.lit rfl [.int .u8 c0.toNat] _ _) (by rw [List.length_append]; omega) (hx.alloc _).size ?_; intro v' w' hown hab)
      have hx' : Ext w w' := hab.ext (hx.alloc _)
      go_roundg r
      case measure => omega
      case rel =>
        have hA' := hA.out
        have hu : uintB j = c0 :: uintB (j / 128) := by rw [uintB_ge (by omega), HC.out]
        refine ⟨j / 128, pre ++ [c0], by simp, by omega, ⟨?_, ?_, ?_⟩, ?_, hx'⟩
        · have := hA'.1; unfold sizeN at this ⊢; rw [hu] at this; simpa using this
        · have := hA'.2.1; unfold sizeN at this ⊢; rw [hu] at this; simp at this ⊢; omega
        · rw [← hA'.2.2, hu]; simp
        · rw [← List.append_assoc]; exact hown.tail
    · have hA' := hA.out
      have hpre : pre ++ [UInt8.ofNat j] = uintB m := by rw [← hA'.2.2, uintB_lt (by omega)]
      obtain ⟨c0, hc0⟩ : ∃ c0, c0 = UInt8.ofNat j := ⟨_, rfl⟩
      have hor : bv [c0] = [.int .u8 (j : Int)] := by simp only [bv, List.map_cons, List.map_nil]; rw [hc0, ofNat_small (by omega)]
      rw [← hc0] at hpre
      have HC := Lib.hid hpre
      clear hc0 hpre hA' hA
      go_wp2_with (at_builtin; refine wpList_append_tail _ rfl (.tmp 21) (.tmp 24) rfl w.heap.size u0 (bs ++ pre) rfl (Tail.ext hT.out ((Ext.refl _).alloc _)) (some ⟨wr.heap.size, 0, none⟩) 1 1 [c0] rfl rfl (by omega) (by rw [hor]; exact Cells.lit rfl [.int .u8 (j : Int)] _ _) (by rw [List.length_append]; omega) (hx.alloc _).size ?_; intro v' w' hown hab)
      have hx' : Ext w w' := hab.ext (hx.alloc _)
      go_ret
      refine ⟨v', rfl, ?_, hx'⟩
      rw [List.append_assoc, HC.out] at hown
      exact hown

theorem or1_int (m : Nat) (hm : m < 18446744073709551616) : bits .or .u64 (m : Int) 1 = ((m ||| 1 : Nat) : Int) := by
  have e : (BitVec.ofInt 64 (m : Int) ||| BitVec.ofInt 64 1).toNat = m ||| 1 := by
    have e2 : BitVec.ofInt 64 1 = 1#64 := by decide
    rw [e2, BitVec.ofInt_natCast, BitVec.toNat_or, BitVec.toNat_ofNat, Nat.mod_eq_of_lt (by simpa using hm)]
    rfl
  have h64 : m ||| 1 < 2 ^ 64 := Nat.or_lt_two_pow (by simpa using hm) (by omega)
  show IntKind.u64.wrap (((BitVec.ofInt 64 (m : Int) ||| BitVec.ofInt 64 1).toNat : Nat) : Int) = _
  rw [e, IntKind.wrap_u64]
  omega
theorem zig_int (m : Int) (h0 : -9223372036854775808 ≤ m) (h1 : m ≤ 9223372036854775807) :
    bits .xor .u64 (IntKind.u64.wrap (wrap64 (m * 2))) (IntKind.u64.wrap (m / 9223372036854775808)) = ((zig m : Nat) : Int) := by
  by_cases hm : 0 ≤ m
  · have e1 : IntKind.u64.wrap (wrap64 (m * 2)) = (((2 * m).toNat : Nat) : Int) := by rw [IntKind.wrap_u64]; unfold wrap64; omega
    have e2 : IntKind.u64.wrap (m / 9223372036854775808) = ((0 : Nat) : Int) := by rw [IntKind.wrap_u64]; omega
    rw [e1, e2, bits_xor_u64_nat _ _ (by omega) (by omega), Nat.xor_zero]
    unfold zig
    rw [if_pos hm]
  · obtain ⟨q, hq⟩ : ∃ q : Nat, (q : Int) = -(m + 1) := ⟨(-(m + 1)).toNat, by omega⟩
    have e1 : IntKind.u64.wrap (wrap64 (m * 2)) = ((2 ^ 64 - 1 - (2 * q + 1) : Nat) : Int) := by rw [IntKind.wrap_u64]; unfold wrap64; omega
    have e2 : IntKind.u64.wrap (m / 9223372036854775808) = ((2 ^ 64 - 1 : Nat) : Int) := by rw [IntKind.wrap_u64]; omega
    rw [e1, e2, bits_xor_u64_nat _ _ (by omega) (by omega)]
    have hx : (2 ^ 64 - 1 - (2 * q + 1)) ^^^ (2 ^ 64 - 1) = 2 * q + 1 := by
      have h := BitVec.not_not (b := BitVec.ofNat 64 (2 * q + 1))
      have h2 := congrArg BitVec.toNat (BitVec.xor_allOnes (x := ~~~ (BitVec.ofNat 64 (2 * q + 1))))
      rw [h, BitVec.toNat_xor, BitVec.toNat_not, BitVec.toNat_allOnes, BitVec.toNat_ofNat, Nat.mod_eq_of_lt (by omega)] at h2
      exact h2
    rw [hx]
    unfold zig
    rw [if_neg hm]
    omega


theorem text_calls (A : Option Addr) (n c : Nat) (bs : List UInt8) (s : ByteArray) (w : World) (hb : Cells w A (bv bs)) (hn : bs.length = n) (hc : n ≤ c) (hl : n + s.size ≤ 140737488351232) :
    Calls Tryd.prog 84 #[.slice A n c, .string s] w fun e w' => ∃ v, e = .returned v ∧ Own w.heap.size w' v (bs ++ textB s.data.toList) ∧ Ext w w' := by
  go_enter Tryd.func84, Tryd.ntmps84
  go_wp2_with (first
    | (go_at_call 112; (with_reducible refine (uint_calls A n c bs s.size _ hb hn hc (by omega) (by omega)).mono ?_); rintro e w1 ⟨v1, rfl, hown, hx⟩; have hlen : (bs ++ uintB s.size).length ≤ n + 10 := (by rw [List.length_append, hn]; exact Nat.add_le_add_left (sizeN_64 (by omega)) _))
    | (at_builtin; refine wpList_append_str _ rfl (.tmp 9) (.tmp 10) rfl w.heap.size v1 (bs ++ uintB s.size) rfl hown s rfl (by omega) hx.size ?_; intro v2 w2 hown2 hg2))
  have hx2 := hown.grows hx hg2
  go_ret
  refine ⟨v2, rfl, ?_, hx2⟩
  unfold textB
  rw [str_len, ← List.append_assoc]
  exact hown2

end Go.Proofs.YtcnhbodemabbdaaDoor
