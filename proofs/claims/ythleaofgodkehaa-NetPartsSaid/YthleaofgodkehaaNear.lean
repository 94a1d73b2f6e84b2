/- near: do two texts part in one bit? Printed by wip/mknear.py. -/
import Derived.Test.YthleaofgodkehaaNetLaw
namespace Go.Proofs.Ythleaofgodkehaa
open Go.RowKit
set_option linter.unusedVariables false

/-- How many of the first k bits are set. -/
def popk (z : UInt8) : Nat → Nat
  | 0 => 0
  | k + 1 => popk z k + (if z.toNat / 2 ^ k % 2 = 1 then 1 else 0)
theorem popk_le (z : UInt8) : ∀ k, popk z k ≤ k
  | 0 => Nat.le_refl _
  | k + 1 => by
    have := popk_le z k
    unfold popk
    split <;> omega
/-- How many bits part in the first n bytes. -/
def cntTo (a b : List UInt8) : Nat → Nat
  | 0 => 0
  | n + 1 => cntTo a b n + popk (a.getD n 0 ^^^ b.getD n 0) 8
theorem cntTo_le (a b : List UInt8) : ∀ n, cntTo a b n ≤ 8 * n
  | 0 => Nat.le_refl _
  | n + 1 => by
    have := cntTo_le a b n
    have := popk_le (a.getD n 0 ^^^ b.getD n 0) 8
    unfold cntTo
    omega
def nearP (a b : ByteArray) : Bool := decide (a.size = b.size) && decide (cntTo a.data.toList b.data.toList a.size = 1)
theorem popk_zero : popk 0 8 = 0 := by decide
theorem popk_bit : ∀ m < 8, popk (UInt8.ofNat (2 ^ m)) 8 = 1 := by decide
theorem cntTo_turn (l : List UInt8) (i : Nat) (hi : i < l.length) (m : Nat) (hm : m < 8) : ∀ n, cntTo (l.set i (l.getD i 0 ^^^ UInt8.ofNat (2 ^ m))) l n = if i < n then 1 else 0
  | 0 => rfl
  | n + 1 => by
    unfold cntTo
    rw [cntTo_turn l i hi m hm n]
    by_cases e : n = i
    · subst e
      have h1 : (l.set n (l.getD n 0 ^^^ UInt8.ofNat (2 ^ m))).getD n 0 = l.getD n 0 ^^^ UInt8.ofNat (2 ^ m) := by
        rw [List.getD_eq_getElem?_getD, List.getElem?_set_self hi, Option.getD_some]
      rw [h1, if_neg (Nat.lt_irrefl _), if_pos (Nat.lt_succ_self _)]
      have h2 : (l.getD n 0 ^^^ UInt8.ofNat (2 ^ m)) ^^^ l.getD n 0 = UInt8.ofNat (2 ^ m) := by
        rw [UInt8.xor_comm, ← UInt8.xor_assoc, UInt8.xor_self, UInt8.zero_xor]
      rw [h2, popk_bit m hm]
    · have h1 : (l.set i (l.getD i 0 ^^^ UInt8.ofNat (2 ^ m))).getD n 0 = l.getD n 0 := by
        rw [List.getD_eq_getElem?_getD, List.getElem?_set_ne (fun h => e h.symm), ← List.getD_eq_getElem?_getD]
      rw [h1, UInt8.xor_self, popk_zero, Nat.add_zero]
      by_cases h2 : i < n
      · rw [if_pos h2, if_pos (by omega)]
      · rw [if_neg h2, if_neg (by omega)]
theorem near_turn (s : ByteArray) (f : UInt8) (hs : s.size ≠ 0) : nearP (turnB s f) s = true := by
  have hl : f.toNat / 6 % s.size < s.data.toList.length := by rw [str_len]; exact Nat.mod_lt _ (by omega)
  have hz : (turnB s f).size = s.size := by unfold turnB; rw [bstr_size, List.length_set, str_len]
  unfold nearP
  rw [hz, decide_eq_true rfl, Bool.true_and, decide_eq_true_iff]
  unfold turnB
  rw [bstr_data, cntTo_turn _ _ hl _ (Nat.mod_lt _ (by omega)), if_pos (by rw [str_len] at hl; exact hl)]

theorem bits_and1_u8 (q : Nat) (hq : q < 256) : bits .and .u8 (q : Int) 1 = ((q % 2 : Nat) : Int) := by
  have e : (BitVec.ofInt 8 (q : Int) &&& BitVec.ofInt 8 (1 : Int)).toNat = q % 2 := by
    rw [BitVec.toNat_and, BitVec.ofInt_natCast, BitVec.toNat_ofNat]
    have h1 : q % 2 ^ 8 = q := by omega
    have h2 : (BitVec.ofInt 8 (1 : Int)).toNat = 1 := by decide
    rw [h1, h2, Nat.and_one_is_mod]
  show IntKind.u8.wrap (((BitVec.ofInt 8 (q : Int) &&& BitVec.ofInt 8 (1 : Int)).toNat : Nat) : Int) = _
  rw [e]
  simp only [IntKind.wrap, IntKind.bits, IntKind.signed]
  simp
  omega
set_option maxRecDepth 50000 in
set_option maxHeartbeats 4000000 in
theorem near_calls (sa sb : ByteArray) (w : World) (hb : sb.size ≤ 140737488351232) : Calls Try.prog 18 #[.string sa, .string sb] w fun e w' => e = .returned (.bool (nearP sa sb)) ∧ Ext w w' := by
  go_enter Try.func18, Try.ntmps18
  by_cases hn : sa.size = sb.size
  · have hn1 : ((sa.size : Int) != (sb.size : Int)) = false := by rw [hn]; simp
    obtain ⟨N, hN⟩ : ∃ N, N = sb.size := ⟨_, rfl⟩
    have HN := Lib.hid hN
    have HA := Lib.hid hn
    go_upto_region 5 with (fail)
    clear hn1 hn hN
    go_loopw [6, 5] (fun i v wr => ∃ (j : Nat), j ≤ sa.size ∧ i = .int .i64 j ∧ v = .int .i64 (cntTo sa.data.toList sb.data.toList j) ∧ Ext w wr) (fun i _ _ => sa.size - (intOf i).toNat)
    case atStart => exact ⟨0, Nat.zero_le _, rfl, rfl, Ext.refl _⟩
    case round =>
      obtain ⟨j, hj, rfl, rfl, hx⟩ := hrel
      by_cases hlt : j < sa.size
      · obtain ⟨C, hC⟩ : ∃ C, C = cntTo sa.data.toList sb.data.toList j := ⟨_, rfl⟩
        have hCle : C ≤ 8 * j := by rw [hC]; exact cntTo_le _ _ _
        have hltb : j < sb.size := by rw [← HA.out]; exact hlt
        obtain ⟨x, hxe⟩ : ∃ x : UInt8, x = sa[j] := ⟨_, rfl⟩
        obtain ⟨y, hye⟩ : ∃ y : UInt8, y = sb[j] := ⟨_, rfl⟩
        have hnext : cntTo sa.data.toList sb.data.toList (j + 1) = C + popk (x ^^^ y) 8 := by
          show cntTo sa.data.toList sb.data.toList j + popk (sa.data.toList.getD j 0 ^^^ sb.data.toList.getD j 0) 8 = _
          rw [getD_data sa j hlt, getD_data sb j hltb, hC, hxe, hye]
          rfl
        have HX := Lib.hid (fun (u : World) => show (Instr.index 9 (.string sa) (.int .i64 (j : Int))).run Try.prog u = .ok (.int .u8 x.toNat) u from by
          have hp0 : (0 : Int) ≤ (j : Int) := by omega
          have hp1 : (j : Int) < (sa.size : Int) := by omega
          rw [hxe]
          go_simp)
        have HY := Lib.hid (fun (u : World) => show (Instr.index 9 (.string sb) (.int .i64 (j : Int))).run Try.prog u = .ok (.int .u8 y.toNat) u from by
          have hp0 : (0 : Int) ≤ (j : Int) := by omega
          have hp1 : (j : Int) < (sb.size : Int) := by omega
          rw [hye]
          go_simp)
        have HNX := Lib.hid hnext
        obtain ⟨z, hz⟩ : ∃ z, z = x ^^^ y := ⟨_, rfl⟩
        have hxor : bits BinOp.xor IntKind.u8 (x.toNat : Int) (y.toNat : Int) = (z.toNat : Int) := by
          rw [bits_xor_u8_nat _ _ (UInt8.toNat_lt x) (UInt8.toNat_lt y), hz, UInt8.toNat_xor]
        have HZ := Lib.hid hz
        have HXOR := Lib.hid hxor
        rw [← hC]
        clear hnext hxe hye hC hz hxor
        have hlti : (j : Int) < (sa.size : Int) := by omega
        go_upto_region 8 with (fail)
        go_loopw [7, 5] (fun i v wr' => ∃ (k : Nat), k ≤ 8 ∧ i = .int .i64 k ∧ v = .int .i64 (C + popk z k : Nat) ∧ Ext wr wr') (fun i _ _ => 8 - (intOf i).toNat)
        case atStart => exact ⟨0, Nat.zero_le _, rfl, by rfl, Ext.refl _⟩
        case round =>
          obtain ⟨k, hk, rfl, rfl, hx2⟩ := hrel
          have hpk := popk_le z k
          by_cases hk8 : k < 8
          · have hki : (k : Int) < 8 := by omega
            obtain ⟨q, hq⟩ : ∃ q, q = z.toNat / 2 ^ k := ⟨_, rfl⟩
            have hzl := UInt8.toNat_lt z
            have hql : q < 256 := by rw [hq]; exact Nat.lt_of_le_of_lt (Nat.div_le_self _ _) hzl
            have HQ := Lib.hid hq
            have HAND := Lib.hid (bits_and1_u8 q hql)
            have hps : popk z (k + 1) = popk z k + (if q % 2 = 1 then 1 else 0) := by rw [hq]; rfl
            have HPS := Lib.hid hps
            clear hq hps
            by_cases hbit : q % 2 = 1
            · go_upto_region 10 with (fail)
              refine wp_region_ops (FInv [23, 24, 25, 26, 27, 28, 29, 30, 31, 32, 33, 34] _ wr.drew [⟨0, none, 23, .val (.string sa)⟩, ⟨1, none, 24, .val (.int .i64 (j : Int))⟩, ⟨2, none, 25, .val (.int .u8 (x.toNat : Int))⟩, ⟨3, none, 26, .val (.string sb)⟩, ⟨4, none, 27, .val (.int .i64 (j : Int))⟩, ⟨5, none, 28, .val (.int .u8 (y.toNat : Int))⟩, ⟨6, none, 29, .val (.int .u8 (z.toNat : Int))⟩, ⟨7, none, 30, .val (.int .i64 (k : Int))⟩, ⟨8, none, 31, .val (.int .u64 (k : Int))⟩, ⟨9, none, 32, .val (.int .u8 (q : Int))⟩, ⟨10, none, 33, .val (.int .u8 ((q % 2 : Nat) : Int))⟩, ⟨11, none, 34, .val (.bool true)⟩]) (by kernel_rfl) (by kernel_rfl) FInv.start ?_ ?_
              · refine ⟨?o0, ?o1, ?o2, ?o3, ?o4, ?o5, ?o6, ?o7, ?o8, ?o9, ?o10, ?o11, trivial⟩
                case o0 =>
                  intro f a u h hfi hp hq
                  have q0 : a.tmps[0]?.getD undef = .string sa := h.agree.att (by decide)
                  exact h.yieldG rfl (wanted_none rfl) 23 rfl (by change 23 < 39; decide) rfl _ rfl (by go_simp)
                case o1 =>
                  intro f a u h hfi hp hq
                  have q6 : a.tmps[6]?.getD undef = .int .i64 (j : Int) := h.agree.att (by decide)
                  exact h.yieldG rfl (wanted_none rfl) 24 rfl (by change 24 < 39; decide) rfl _ rfl (by go_simp)
                case o2 =>
                  intro f a u h hfi hp hq
                  exact h.yieldG rfl (wanted_none rfl) 25 rfl (by change 25 < 39; decide) rfl _ rfl (run_of_sem rfl (by rw [h.at_ 0 rfl (pre_of hp 0 rfl), h.at_ 1 rfl (pre_of hp 1 rfl)]; exact HX.out u))
                case o3 =>
                  intro f a u h hfi hp hq
                  have q1 : a.tmps[1]?.getD undef = .string sb := h.agree.att (by decide)
                  exact h.yieldG rfl (wanted_none rfl) 26 rfl (by change 26 < 39; decide) rfl _ rfl (by go_simp)
                case o4 =>
                  intro f a u h hfi hp hq
                  have q6 : a.tmps[6]?.getD undef = .int .i64 (j : Int) := h.agree.att (by decide)
                  exact h.yieldG rfl (wanted_none rfl) 27 rfl (by change 27 < 39; decide) rfl _ rfl (by go_simp)
                case o5 =>
                  intro f a u h hfi hp hq
                  exact h.yieldG rfl (wanted_none rfl) 28 rfl (by change 28 < 39; decide) rfl _ rfl (run_of_sem rfl (by rw [h.at_ 3 rfl (pre_of hp 3 rfl), h.at_ 4 rfl (pre_of hp 4 rfl)]; exact HY.out u))
                case o6 =>
                  intro f a u h hfi hp hq
                  have hxor := HXOR.out
                  have q25 := h.att 2 rfl (pre_of hp 2 rfl)
                  have q28 := h.att 5 rfl (pre_of hp 5 rfl)
                  exact h.yieldG rfl (wanted_none rfl) 29 rfl (by change 29 < 39; decide) rfl _ rfl (by go_simp)
                case o7 =>
                  intro f a u h hfi hp hq
                  have q7 : a.tmps[7]?.getD undef = .int .i64 (k : Int) := h.agree.att (by decide)
                  exact h.yieldG rfl (wanted_none rfl) 30 rfl (by change 30 < 39; decide) rfl _ rfl (by go_simp)
                case o8 =>
                  intro f a u h hfi hp hq
                  have hw8 : IntKind.u64.wrap (k : Int) = (k : Int) := by rw [IntKind.wrap_u64]; omega
                  have q30 := h.att 7 rfl (pre_of hp 7 rfl)
                  exact h.yieldG rfl (wanted_none rfl) 31 rfl (by change 31 < 39; decide) rfl _ rfl (by go_simp)
                case o9 =>
                  intro f a u h hfi hp hq
                  have h8 : min k 8 = k := by omega
                  have hq := HQ.out
                  have q29 := h.att 6 rfl (pre_of hp 6 rfl)
                  have q31 := h.att 8 rfl (pre_of hp 8 rfl)
                  exact h.yieldG rfl (wanted_none rfl) 32 rfl (by change 32 < 39; decide) rfl _ rfl (by go_simp)
                case o10 =>
                  intro f a u h hfi hp hq
                  have hand := HAND.out
                  have q32 := h.att 9 rfl (pre_of hp 9 rfl)
                  exact h.yieldG rfl (wanted_none rfl) 33 rfl (by change 33 < 39; decide) rfl _ rfl (by go_simp)
                case o11 =>
                  intro f a u h hfi hp hq
                  have hbi :  ((q : Int) % 2 = 1) := by omega
                  have q33 := h.att 10 rfl (pre_of hp 10 rfl)
                  exact h.yieldG rfl (wanted_none rfl) 34 rfl (by change 34 < 39; decide) rfl _ rfl (by go_simp)
              · intro f a u h hall hfar
                have hyu : Ext wr u := ((Ext.refl wr).drew).trans h.ext
                have e34 := h.at_ 11 rfl (hall 11 (by decide))
                have hag := h.agree.out
                simp only [List.foldl_cons, List.foldl_nil, Act.put, List.setIfInBounds_toArray, List.set_cons_zero, List.set_cons_succ, e34] at hag
                generalize a.eval (.tmp 23) = y23 at hag
                generalize a.eval (.tmp 24) = y24 at hag
                generalize a.eval (.tmp 25) = y25 at hag
                generalize a.eval (.tmp 26) = y26 at hag
                generalize a.eval (.tmp 27) = y27 at hag
                generalize a.eval (.tmp 28) = y28 at hag
                generalize a.eval (.tmp 29) = y29 at hag
                generalize a.eval (.tmp 30) = y30 at hag
                generalize a.eval (.tmp 31) = y31 at hag
                generalize a.eval (.tmp 32) = y32 at hag
                generalize a.eval (.tmp 33) = y33 at hag
                clear h hall hfar e34
                subst hag
                rw [if_pos hbit] at HPS
                go_wp2
                go_roundw
                case rel => exact ⟨k + 1, by omega, by go_num, by rw [HPS.out]; go_num, hx2.trans hyu⟩
                case measure => simp [intOf]; omega
            · go_upto_region 10 with (fail)
              refine wp_region_ops (FInv [23, 24, 25, 26, 27, 28, 29, 30, 31, 32, 33, 34] _ wr.drew [⟨0, none, 23, .val (.string sa)⟩, ⟨1, none, 24, .val (.int .i64 (j : Int))⟩, ⟨2, none, 25, .val (.int .u8 (x.toNat : Int))⟩, ⟨3, none, 26, .val (.string sb)⟩, ⟨4, none, 27, .val (.int .i64 (j : Int))⟩, ⟨5, none, 28, .val (.int .u8 (y.toNat : Int))⟩, ⟨6, none, 29, .val (.int .u8 (z.toNat : Int))⟩, ⟨7, none, 30, .val (.int .i64 (k : Int))⟩, ⟨8, none, 31, .val (.int .u64 (k : Int))⟩, ⟨9, none, 32, .val (.int .u8 (q : Int))⟩, ⟨10, none, 33, .val (.int .u8 ((q % 2 : Nat) : Int))⟩, ⟨11, none, 34, .val (.bool false)⟩]) (by kernel_rfl) (by kernel_rfl) FInv.start ?_ ?_
              · refine ⟨?o0, ?o1, ?o2, ?o3, ?o4, ?o5, ?o6, ?o7, ?o8, ?o9, ?o10, ?o11, trivial⟩
                case o0 =>
                  intro f a u h hfi hp hq
                  have q0 : a.tmps[0]?.getD undef = .string sa := h.agree.att (by decide)
                  exact h.yieldG rfl (wanted_none rfl) 23 rfl (by change 23 < 39; decide) rfl _ rfl (by go_simp)
                case o1 =>
                  intro f a u h hfi hp hq
                  have q6 : a.tmps[6]?.getD undef = .int .i64 (j : Int) := h.agree.att (by decide)
                  exact h.yieldG rfl (wanted_none rfl) 24 rfl (by change 24 < 39; decide) rfl _ rfl (by go_simp)
                case o2 =>
                  intro f a u h hfi hp hq
                  exact h.yieldG rfl (wanted_none rfl) 25 rfl (by change 25 < 39; decide) rfl _ rfl (run_of_sem rfl (by rw [h.at_ 0 rfl (pre_of hp 0 rfl), h.at_ 1 rfl (pre_of hp 1 rfl)]; exact HX.out u))
                case o3 =>
                  intro f a u h hfi hp hq
                  have q1 : a.tmps[1]?.getD undef = .string sb := h.agree.att (by decide)
                  exact h.yieldG rfl (wanted_none rfl) 26 rfl (by change 26 < 39; decide) rfl _ rfl (by go_simp)
                case o4 =>
                  intro f a u h hfi hp hq
                  have q6 : a.tmps[6]?.getD undef = .int .i64 (j : Int) := h.agree.att (by decide)
                  exact h.yieldG rfl (wanted_none rfl) 27 rfl (by change 27 < 39; decide) rfl _ rfl (by go_simp)
                case o5 =>
                  intro f a u h hfi hp hq
                  exact h.yieldG rfl (wanted_none rfl) 28 rfl (by change 28 < 39; decide) rfl _ rfl (run_of_sem rfl (by rw [h.at_ 3 rfl (pre_of hp 3 rfl), h.at_ 4 rfl (pre_of hp 4 rfl)]; exact HY.out u))
                case o6 =>
                  intro f a u h hfi hp hq
                  have hxor := HXOR.out
                  have q25 := h.att 2 rfl (pre_of hp 2 rfl)
                  have q28 := h.att 5 rfl (pre_of hp 5 rfl)
                  exact h.yieldG rfl (wanted_none rfl) 29 rfl (by change 29 < 39; decide) rfl _ rfl (by go_simp)
                case o7 =>
                  intro f a u h hfi hp hq
                  have q7 : a.tmps[7]?.getD undef = .int .i64 (k : Int) := h.agree.att (by decide)
                  exact h.yieldG rfl (wanted_none rfl) 30 rfl (by change 30 < 39; decide) rfl _ rfl (by go_simp)
                case o8 =>
                  intro f a u h hfi hp hq
                  have hw8 : IntKind.u64.wrap (k : Int) = (k : Int) := by rw [IntKind.wrap_u64]; omega
                  have q30 := h.att 7 rfl (pre_of hp 7 rfl)
                  exact h.yieldG rfl (wanted_none rfl) 31 rfl (by change 31 < 39; decide) rfl _ rfl (by go_simp)
                case o9 =>
                  intro f a u h hfi hp hq
                  have h8 : min k 8 = k := by omega
                  have hq := HQ.out
                  have q29 := h.att 6 rfl (pre_of hp 6 rfl)
                  have q31 := h.att 8 rfl (pre_of hp 8 rfl)
                  exact h.yieldG rfl (wanted_none rfl) 32 rfl (by change 32 < 39; decide) rfl _ rfl (by go_simp)
                case o10 =>
                  intro f a u h hfi hp hq
                  have hand := HAND.out
                  have q32 := h.att 9 rfl (pre_of hp 9 rfl)
                  exact h.yieldG rfl (wanted_none rfl) 33 rfl (by change 33 < 39; decide) rfl _ rfl (by go_simp)
                case o11 =>
                  intro f a u h hfi hp hq
                  have hbi : ¬ ((q : Int) % 2 = 1) := by omega
                  have q33 := h.att 10 rfl (pre_of hp 10 rfl)
                  exact h.yieldG rfl (wanted_none rfl) 34 rfl (by change 34 < 39; decide) rfl _ rfl (by go_simp)
              · intro f a u h hall hfar
                have hyu : Ext wr u := ((Ext.refl wr).drew).trans h.ext
                have e34 := h.at_ 11 rfl (hall 11 (by decide))
                have hag := h.agree.out
                simp only [List.foldl_cons, List.foldl_nil, Act.put, List.setIfInBounds_toArray, List.set_cons_zero, List.set_cons_succ, e34] at hag
                generalize a.eval (.tmp 23) = y23 at hag
                generalize a.eval (.tmp 24) = y24 at hag
                generalize a.eval (.tmp 25) = y25 at hag
                generalize a.eval (.tmp 26) = y26 at hag
                generalize a.eval (.tmp 27) = y27 at hag
                generalize a.eval (.tmp 28) = y28 at hag
                generalize a.eval (.tmp 29) = y29 at hag
                generalize a.eval (.tmp 30) = y30 at hag
                generalize a.eval (.tmp 31) = y31 at hag
                generalize a.eval (.tmp 32) = y32 at hag
                generalize a.eval (.tmp 33) = y33 at hag
                clear h hall hfar e34
                subst hag
                rw [if_neg hbit] at HPS
                go_wp2
                go_roundw
                case rel => exact ⟨k + 1, by omega, by go_num, by rw [HPS.out]; go_num, hx2.trans hyu⟩
                case measure => simp [intOf]; omega
          · obtain rfl : k = 8 := by omega
            rw [← HZ.out] at HNX
            rw [← HNX.out]
            go_wp2
            go_roundw
            case rel => exact ⟨j + 1, by omega, by go_num, rfl, hx.trans hx2⟩
            case measure => simp [intOf]; omega
      · obtain rfl : j = sa.size := by omega
        have hres : nearP sa sb = decide (cntTo sa.data.toList sb.data.toList sa.size = 1) := by unfold nearP; rw [decide_eq_true HA.out, Bool.true_and]
        have HRES := Lib.hid hres
        clear hres
        go_wp2
        go_ret
        rw [HRES.out]
        exact ⟨ret_bool (by rw [Bool.eq_iff_iff, beq_iff_eq, decide_eq_true_iff]; omega), hx⟩
  · have hn1 : ((sa.size : Int) != (sb.size : Int)) = true := by rw [bne_iff_ne]; omega
    have hres : nearP sa sb = false := by unfold nearP; rw [decide_eq_false hn, Bool.false_and]
    have HRES := Lib.hid hres
    clear hn hres
    go_wp2
    go_ret
    rw [HRES.out]
    exact ⟨rfl, Ext.refl _⟩
end Go.Proofs.Ythleaofgodkehaa
