/- IdentParts: names of both hashes are never the same; names of the same bytes are, by one hash: the walk of the law. Printed by wip/mkidentparts.py. -/
import Derived.Test.YtnccmcnmoccfmaaDoorIdentLaw
import Derived.Test.YtnccmcnmoccfmaaDoorLedgerW
namespace Go.Proofs.YtnccmcnmoccfmaaDoor
open Go.RowKit
set_option linter.unusedVariables false

theorem lit0_u8 (w : World) : (Instr.buildSlice 22 0 #[]).run Tryd.prog w = .ok (.slice (some ⟨w.heap.size, 0, none⟩) 0 0) (w.alloc (.cells #[] 5)) := by go_simp
theorem partsE_ok (B n : Nat) (xs : List Value) : ∀ e ∈ [entRow B 11 13 32 5 1 0 [], entRow B 13 14 34 5 1 (0 + n) ([] ++ xs)], e.OK B := by
  intro e he
  simp only [List.mem_cons, List.not_mem_nil, or_false] at he
  rcases he with rfl | rfl <;> exact entRow_ok ..

set_option maxRecDepth 50000 in
set_option maxHeartbeats 4000000 in
theorem parts_way (A A' : Option Addr) (n c m c' : Nat) (xs bs : List UInt8) (X Y : Array Value) (S T : ByteArray) (w : World) (ha : Cells w A (bv xs)) (hb : Cells w A' (bv bs)) (Hna : Hid (xs.length = n)) (hc : n ≤ c) (hc' : m ≤ c') (hn : ¬ 4096 < n) (hm : ¬ 4096 < m) (hT : Tab w) (hpX : X.size = 33) (hpY : Y.size = 33) (hX1 : ∀ v ∈ X.toList, v.oneCell' = true) (hY1 : ∀ v ∈ Y.toList, v.oneCell' = true)
    (hofx : ∀ A c w', Cells w' A (bv xs) → n ≤ c → Tab w' → Calls Tryd.prog 9 #[.int .u8 1, .slice A n c] w' fun e w'' => e = .returned (.agg X) ∧ Ext w' w'')
    (hofy : ∀ w', Cells w' A' (bv bs) → Tab w' → Calls Tryd.prog 9 #[.int .u8 2, .slice A' m c'] w' fun e w'' => e = .returned (.agg Y) ∧ Ext w' w'')
    (htx : ∀ w', Calls Tryd.prog 13 #[.agg X] w' fun e w'' => e = .returned (.string S) ∧ Ext w' w'')
    (hty : ∀ w', Calls Tryd.prog 13 #[.agg Y] w' fun e w'' => e = .returned (.string T) ∧ Ext w' w'')
    (hgx : ∀ w', Calls Tryd.prog 14 #[.agg X] w' fun e w'' => e = .returned (.bool true) ∧ Ext w' w'')
    (hgy : ∀ w', Calls Tryd.prog 14 #[.agg Y] w' fun e w'' => e = .returned (.bool true) ∧ Ext w' w'')
    (heq : ∀ w', (Op.equalIn 10000 26 (.agg X) (.agg X)).run Tryd.prog w' = .ok true w')
    (hne : ∀ w', (Op.equalIn 10000 26 (.agg X) (.agg Y)).run Tryd.prog w' = .ok false w')
    (hstr : (S.toList == T.toList) = false) :
    Calls Tryd.prog 4 #[.slice A n c, .slice A' m c'] w fun e w' => e = .returned (.bool true) ∧ Ext w w' := by
  go_enter Tryd.func4, Tryd.ntmps4
  go_wp2_with (first
    | (go_at_call 8; (with_reducible refine (ident_alive _ hT).mono ?_); rintro e w1 ⟨rfl, hx1⟩)
    | (go_at_call 9; first
      | ((with_reducible refine (hofx A c _ (ha.ext hx1) hc (hT.ext hx1)).mono ?_); rintro e w2 ⟨rfl, hx2⟩; have hx12 := hx1.trans hx2)
      | ((with_reducible refine (hofy _ (hb.ext hx12) (hT.ext hx12)).mono ?_); rintro e w3 ⟨rfl, hx3⟩; have hx13 := hx12.trans hx3))
    | (refine wpList_store_blk rfl 26 (.tmp 5) (.tmp 18) rfl rfl w3.heap.size X rfl rfl _ _ ((Blk.new_at rfl _ _).alloc _) (by rw [hpX]; rfl) (by kernel_rfl) hX1 ?_; intro w4 hb4 hg4; have hx4 : Ext w w4 := ((hx13.alloc _).alloc _).grown_ hg4 (by intro k hk; cases hk; exact hx13.size); have hz4 := hg4.size)
    | (refine wpList_store_blk rfl 26 (.tmp 6) (.tmp 20) rfl rfl (w3.heap.size + 1) Y rfl rfl _ _ ((Blk.new_at (by simp) _ _).grown hg4 (by simp)) (by rw [hpY]; rfl) (by kernel_rfl) hY1 ?_; intro w5 hb6 hg5; have hx5 : Ext w w5 := hx4.grown_ hg5 (by intro k hk; cases hk; have := hx13.size; omega); have hb5 := hb4.grown hg5 (by simp)))
  obtain ⟨g5, hg⟩ : ∃ g, g = w3.heap.size := ⟨_, rfl⟩
  rw [← hg] at hb5 ⊢
  obtain ⟨g6, hg6⟩ : ∃ g, g = w3.heap.size + 1 := ⟨_, rfl⟩
  rw [← hg6] at hb6
  rw [hg, ← hg6, ← hg]
  clear hg hg6 hg4 hg5 hz4 hb4
  have hok := partsE_ok w5.drew.heap.size n (bv xs)
  have hd1 : diesTab [entRow w5.drew.heap.size 11 13 32 5 1 0 [], entRow w5.drew.heap.size 13 14 34 5 1 (0 + n) ([] ++ bv xs)] = true := rfl
  refine wp_region_ops (RInv [21, 22, 23, 24, 25, 26, 27, 28, 29, 30, 31, 32, 33, 34, 35, 36, 37, 38, 39, 40, 41, 42, 43, 44, 45, 46, 4] _ w5.drew [(0, 21, .agg X), (1, 22, .agg Y), (2, 23, .bool true), (3, 24, .bool true), (4, 25, .agg X), (5, 26, .string S), (6, 27, .agg Y), (7, 28, .string T), (8, 29, .bool true), (9, 30, .bool true), (10, 31, .bool true), (12, 33, .slice A n c), (14, 35, .agg X), (15, 36, .agg X), (16, 37, .bool true), (17, 38, .bool true), (18, 39, .bool true), (19, 40, .agg X), (20, 41, .bool true), (21, 42, .bool true), (22, 43, .bool true), (23, 44, .agg Y), (24, 45, .bool true), (25, 46, .bool true), (26, 4, .bool true)] [entRow w5.drew.heap.size 11 13 32 5 1 0 [], entRow w5.drew.heap.size 13 14 34 5 1 (0 + n) ([] ++ bv xs)]) (by kernel_rfl) (by kernel_rfl) RInv.start ?_ ?_
  · refine ⟨?o0, ?o1, ?o2, ?o3, ?o4, ?o5, ?o6, ?o7, ?o8, ?o9, ?o10, ?o11, ?o12, ?o13, ?o14, ?o15, ?o16, ?o17, ?o18, ?o19, ?o20, ?o21, ?o22, ?o23, ?o24, ?o25, ?o26, trivial⟩
    case o0 =>
      intro f a u h hfi hp hq
      exact h.yieldG hok hd1 hfi rfl (wanted_none rfl) 21 rfl (by change 21 < 47; decide) rfl _ rfl (run_of_sem rfl (by rw [show a.eval (.tmp 5) = .pointer (some ⟨g5, 0, none⟩) from h.agree.eval (by decide)]; exact run_load_blk (hb5.drew.ext h.ext) Tryd.underlying26 rfl (by rw [hpX]; kernel_rfl)))
    case o1 =>
      intro f a u h hfi hp hq
      exact h.yieldG hok hd1 hfi rfl (wanted_none rfl) 22 rfl (by change 22 < 47; decide) rfl _ rfl (run_of_sem rfl (by rw [show a.eval (.tmp 6) = .pointer (some ⟨g6, 0, none⟩) from h.agree.eval (by decide)]; exact run_load_blk (hb6.drew.ext h.ext) Tryd.underlying26 rfl (by rw [hpY]; kernel_rfl)))
    case o2 =>
      intro f a u h hfi hp hq
      have q21 := h.att 0 rfl (pre_of hp 0 rfl)
      have q22 := h.att 1 rfl (pre_of hp 1 rfl)
      have z := hne u
      exact h.yieldG hok hd1 hfi rfl (wanted_none rfl) 23 rfl (by change 23 < 47; decide) rfl _ rfl (by go_simp)
    case o3 =>
      intro f a u h hfi hp hq
      have q23 := h.att 2 rfl (pre_of hp 2 rfl)
      exact h.yieldG hok hd1 hfi rfl (wanted_none rfl) 24 rfl (by change 24 < 47; decide) rfl _ rfl (by go_simp)
    case o4 =>
      intro f a u h hfi hp hq
      exact h.yieldG hok hd1 hfi rfl (wanted_yes (g := 3) (d' := 24) rfl rfl (h.at_ 3 rfl (pre_of hp 3 rfl))) 25 rfl (by change 25 < 47; decide) rfl _ rfl (run_of_sem rfl (by rw [show a.eval (.tmp 5) = .pointer (some ⟨g5, 0, none⟩) from h.agree.eval (by decide)]; exact run_load_blk (hb5.drew.ext h.ext) Tryd.underlying26 rfl (by rw [hpX]; kernel_rfl)))
    case o5 =>
      intro f a u h hfi hp hq
      exact h.callG hok hd1 hfi rfl (wanted_yes (g := 3) (d' := 24) rfl rfl (h.at_ 3 rfl (pre_of hp 3 rfl))) 26 rfl (by change 26 < 47; decide) rfl _ rfl 13 #[.tmp 25] #[26] _ rfl (by kernel_rfl) (by rw [arr1, h.at_ 4 rfl (pre_of hp 4 rfl)]) (htx u)
    case o6 =>
      intro f a u h hfi hp hq
      exact h.yieldG hok hd1 hfi rfl (wanted_yes (g := 3) (d' := 24) rfl rfl (h.at_ 3 rfl (pre_of hp 3 rfl))) 27 rfl (by change 27 < 47; decide) rfl _ rfl (run_of_sem rfl (by rw [show a.eval (.tmp 6) = .pointer (some ⟨g6, 0, none⟩) from h.agree.eval (by decide)]; exact run_load_blk (hb6.drew.ext h.ext) Tryd.underlying26 rfl (by rw [hpY]; kernel_rfl)))
    case o7 =>
      intro f a u h hfi hp hq
      exact h.callG hok hd1 hfi rfl (wanted_yes (g := 3) (d' := 24) rfl rfl (h.at_ 3 rfl (pre_of hp 3 rfl))) 28 rfl (by change 28 < 47; decide) rfl _ rfl 13 #[.tmp 27] #[26] _ rfl (by kernel_rfl) (by rw [arr1, h.at_ 6 rfl (pre_of hp 6 rfl)]) (hty u)
    case o8 =>
      intro f a u h hfi hp hq
      have q26 := h.att 5 rfl (pre_of hp 5 rfl)
      have q28 := h.att 7 rfl (pre_of hp 7 rfl)
      have z := hstr
      exact h.yieldG hok hd1 hfi rfl (wanted_yes (g := 3) (d' := 24) rfl rfl (h.at_ 3 rfl (pre_of hp 3 rfl))) 29 rfl (by change 29 < 47; decide) rfl _ rfl (by go_simp)
    case o9 =>
      intro f a u h hfi hp hq
      have q24 := h.att 3 rfl (pre_of hp 3 rfl)
      have q29 := h.att 8 rfl (pre_of hp 8 rfl)
      exact h.yieldG hok hd1 hfi rfl (wanted_none rfl) 30 rfl (by change 30 < 47; decide) rfl _ rfl (by go_simp)
    case o10 =>
      intro f a u h hfi hp hq
      have q30 := h.att 9 rfl (pre_of hp 9 rfl)
      exact h.yieldG hok hd1 hfi rfl (wanted_none rfl) 31 rfl (by change 31 < 47; decide) rfl _ rfl (by go_simp)
    case o11 =>
      intro f a u h hfi hp hq
      exact h.litG hok hd1 hfi rfl (wanted_yes (g := 10) (d' := 31) rfl rfl (h.at_ 10 rfl (pre_of hp 10 rfl))) 32 rfl (by change 32 < 47; decide) rfl 13 5 0 #[] rfl rfl rfl (by decide) (exec_buildSlice rfl (arr0 _)) (lit0_u8 _)
    case o12 =>
      intro f a u h hfi hp hq
      have q0 : a.tmps[0]?.getD undef = .slice A n c := h.agree.att (by decide)
      exact h.yieldG hok hd1 hfi rfl (wanted_yes (g := 10) (d' := 31) rfl rfl (h.at_ 10 rfl (pre_of hp 10 rfl))) 33 rfl (by change 33 < 47; decide) rfl _ rfl (by go_simp)
    case o13 =>
      intro f a u h hfi hp hq
      exact h.appG hok hd1 hfi rfl (wanted_yes (g := 10) (d' := 31) rfl rfl (h.at_ 10 rfl (pre_of hp 10 rfl))) 34 rfl (by change 34 < 47; decide) rfl 32 (.tmp 33) 22 rfl 11 14 5 (.int .u8 0) 1 0 n [] (bv xs) [] rfl rfl (by intro e he; simp only [List.mem_singleton] at he; subst he; exact pre_of hp 11 rfl) Tryd.underlying22 u8_info rfl A c (h.at_ 11 rfl (pre_of hp 12 rfl)) (by rw [bv_len, Hna.out]) (ha.ext ((hx5.drew).trans h.ext)) (bv_cells _) (by simp only [maxLen]; omega) (by omega)
    case o14 =>
      intro f a u h hfi hp hq
      have r13 := h.led.rows (entRow w5.drew.heap.size 13 14 34 5 1 (0 + n) ([] ++ bv xs)) (List.mem_cons_of_mem _ (List.mem_cons_self ..)) ⟨pre_of hp 13 rfl, hfi⟩
      obtain ⟨A5, c5, e5, l5, _, hc5⟩ := own_form r13 (by decide)
      have e5 : a.eval (.tmp 34) = .slice A5 (0 + n) c5 := e5
      rw [Nat.zero_add] at e5 l5
      rw [List.nil_append] at hc5
      exact h.callD hok hd1 hfi rfl (wanted_yes (g := 10) (d' := 31) rfl rfl (h.at_ 10 rfl (pre_of hp 10 rfl))) 35 rfl (by change 35 < 47; decide) rfl _ rfl [entRow w5.drew.heap.size 13 14 34 5 1 (0 + n) ([] ++ bv xs)] rfl (by intro e he; simp only [List.mem_singleton] at he; subst he; exact pre_of hp 13 rfl) 9 #[.const (.int .u8 1), .tmp 34] #[5, 22] _ rfl (by kernel_rfl) (by rw [arr2, e5]; rfl) (hofx A5 c5 u hc5 l5 (hT.ext (hx5.drew.trans h.ext)))
    case o15 =>
      intro f a u h hfi hp hq
      exact h.yieldG hok hd1 hfi rfl (wanted_yes (g := 10) (d' := 31) rfl rfl (h.at_ 10 rfl (pre_of hp 10 rfl))) 36 rfl (by change 36 < 47; decide) rfl _ rfl (run_of_sem rfl (by rw [show a.eval (.tmp 5) = .pointer (some ⟨g5, 0, none⟩) from h.agree.eval (by decide)]; exact run_load_blk (hb5.drew.ext h.ext) Tryd.underlying26 rfl (by rw [hpX]; kernel_rfl)))
    case o16 =>
      intro f a u h hfi hp hq
      have q35 := h.att 12 rfl (pre_of hp 14 rfl)
      have q36 := h.att 13 rfl (pre_of hp 15 rfl)
      have z := heq u
      exact h.yieldG hok hd1 hfi rfl (wanted_yes (g := 10) (d' := 31) rfl rfl (h.at_ 10 rfl (pre_of hp 10 rfl))) 37 rfl (by change 37 < 47; decide) rfl _ rfl (by go_simp)
    case o17 =>
      intro f a u h hfi hp hq
      have q31 := h.att 10 rfl (pre_of hp 10 rfl)
      have q37 := h.att 14 rfl (pre_of hp 16 rfl)
      exact h.yieldG hok hd1 hfi rfl (wanted_none rfl) 38 rfl (by change 38 < 47; decide) rfl _ rfl (by go_simp)
    case o18 =>
      intro f a u h hfi hp hq
      have q38 := h.att 15 rfl (pre_of hp 17 rfl)
      exact h.yieldG hok hd1 hfi rfl (wanted_none rfl) 39 rfl (by change 39 < 47; decide) rfl _ rfl (by go_simp)
    case o19 =>
      intro f a u h hfi hp hq
      exact h.yieldG hok hd1 hfi rfl (wanted_yes (g := 18) (d' := 39) rfl rfl (h.at_ 16 rfl (pre_of hp 18 rfl))) 40 rfl (by change 40 < 47; decide) rfl _ rfl (run_of_sem rfl (by rw [show a.eval (.tmp 5) = .pointer (some ⟨g5, 0, none⟩) from h.agree.eval (by decide)]; exact run_load_blk (hb5.drew.ext h.ext) Tryd.underlying26 rfl (by rw [hpX]; kernel_rfl)))
    case o20 =>
      intro f a u h hfi hp hq
      exact h.callG hok hd1 hfi rfl (wanted_yes (g := 18) (d' := 39) rfl rfl (h.at_ 16 rfl (pre_of hp 18 rfl))) 41 rfl (by change 41 < 47; decide) rfl _ rfl 14 #[.tmp 40] #[26] _ rfl (by kernel_rfl) (by rw [arr1, h.at_ 17 rfl (pre_of hp 19 rfl)]) (hgx u)
    case o21 =>
      intro f a u h hfi hp hq
      have q39 := h.att 16 rfl (pre_of hp 18 rfl)
      have q41 := h.att 18 rfl (pre_of hp 20 rfl)
      exact h.yieldG hok hd1 hfi rfl (wanted_none rfl) 42 rfl (by change 42 < 47; decide) rfl _ rfl (by go_simp)
    case o22 =>
      intro f a u h hfi hp hq
      have q42 := h.att 19 rfl (pre_of hp 21 rfl)
      exact h.yieldG hok hd1 hfi rfl (wanted_none rfl) 43 rfl (by change 43 < 47; decide) rfl _ rfl (by go_simp)
    case o23 =>
      intro f a u h hfi hp hq
      exact h.yieldG hok hd1 hfi rfl (wanted_yes (g := 22) (d' := 43) rfl rfl (h.at_ 20 rfl (pre_of hp 22 rfl))) 44 rfl (by change 44 < 47; decide) rfl _ rfl (run_of_sem rfl (by rw [show a.eval (.tmp 6) = .pointer (some ⟨g6, 0, none⟩) from h.agree.eval (by decide)]; exact run_load_blk (hb6.drew.ext h.ext) Tryd.underlying26 rfl (by rw [hpY]; kernel_rfl)))
    case o24 =>
      intro f a u h hfi hp hq
      exact h.callG hok hd1 hfi rfl (wanted_yes (g := 22) (d' := 43) rfl rfl (h.at_ 20 rfl (pre_of hp 22 rfl))) 45 rfl (by change 45 < 47; decide) rfl _ rfl 14 #[.tmp 44] #[26] _ rfl (by kernel_rfl) (by rw [arr1, h.at_ 21 rfl (pre_of hp 23 rfl)]) (hgy u)
    case o25 =>
      intro f a u h hfi hp hq
      have q43 := h.att 20 rfl (pre_of hp 22 rfl)
      have q45 := h.att 22 rfl (pre_of hp 24 rfl)
      exact h.yieldG hok hd1 hfi rfl (wanted_none rfl) 46 rfl (by change 46 < 47; decide) rfl _ rfl (by go_simp)
    case o26 =>
      intro f a u h hfi hp hq
      have q46 := h.att 23 rfl (pre_of hp 25 rfl)
      exact h.yieldG hok hd1 hfi rfl (wanted_none rfl) 4 rfl (by change 4 < 47; decide) rfl _ rfl (by go_simp)
  · intro f a u h hall hfar
    have hag := h.agree.out
    have e4 := h.at_ 24 rfl (hall 26 (by decide))
    have hxe := hx5.drew.trans h.ext
    simp only [List.foldl_cons, List.foldl_nil, Act.put, List.setIfInBounds_toArray, List.set_cons_zero, List.set_cons_succ, e4] at hag
    generalize a.eval (.tmp 21) = y21 at hag
    generalize a.eval (.tmp 22) = y22 at hag
    generalize a.eval (.tmp 23) = y23 at hag
    generalize a.eval (.tmp 24) = y24 at hag
    generalize a.eval (.tmp 25) = y25 at hag
    generalize a.eval (.tmp 26) = y26 at hag
    generalize a.eval (.tmp 27) = y27 at hag
    generalize a.eval (.tmp 28) = y28 at hag
    generalize a.eval (.tmp 29) = y29 at hag
    generalize a.eval (.tmp 30) = y30 at hag
    generalize a.eval (.tmp 31) = y31 at hag
    generalize a.eval (.tmp 32) = y32 at hag
    generalize a.eval (.tmp 33) = y33 at hag
    generalize a.eval (.tmp 34) = y34 at hag
    generalize a.eval (.tmp 35) = y35 at hag
    generalize a.eval (.tmp 36) = y36 at hag
    generalize a.eval (.tmp 37) = y37 at hag
    generalize a.eval (.tmp 38) = y38 at hag
    generalize a.eval (.tmp 39) = y39 at hag
    generalize a.eval (.tmp 40) = y40 at hag
    generalize a.eval (.tmp 41) = y41 at hag
    generalize a.eval (.tmp 42) = y42 at hag
    generalize a.eval (.tmp 43) = y43 at hag
    generalize a.eval (.tmp 44) = y44 at hag
    generalize a.eval (.tmp 45) = y45 at hag
    generalize a.eval (.tmp 46) = y46 at hag
    clear h hall hfar e4
    subst hag
    go_wp2
    go_ret
    exact ⟨rfl, hxe⟩

theorem identParts_calls (A A' : Option Addr) (n c m c' : Nat) (xs bs : List UInt8) (w : World) (ha : Cells w A (bv xs)) (hb : Cells w A' (bv bs)) (hn : xs.length = n) (hm : bs.length = m) (hc : n ≤ c) (hc' : m ≤ c') (hl : n ≤ 140737488351232) (hl' : m ≤ 140737488351232) (hT : Tab w) :
    Calls Tryd.prog 4 #[.slice A n c, .slice A' m c'] w fun e w' => e = .returned (.bool true) ∧ Ext w w' := by
  by_cases h1 : 4096 < n
  · go_enter Tryd.func4, Tryd.ntmps4
    go_wp2_with (go_at_call 8; refine (ident_alive _ hT).mono ?_; rintro e w1 ⟨rfl, hx1⟩)
    go_ret
    exact ⟨rfl, hx1⟩
  by_cases h2 : 4096 < m
  · go_enter Tryd.func4, Tryd.ntmps4
    go_wp2_with (go_at_call 8; refine (ident_alive _ hT).mono ?_; rintro e w1 ⟨rfl, hx1⟩)
    go_ret
    exact ⟨rfl, hx1⟩
  have hofx := fun A c w' h hc' hT' => idof_calls 1 A n c xs w' h hn hc' (by omega) hT'
  have hofy := fun w' h hT' => idof_calls 2 A' m c' bs w' h hm hc' (by omega) hT'
  have e1 : (((1 : UInt8).toNat : Nat) : Int) = 1 := rfl
  have e2 : (((2 : UInt8).toNat : Nat) : Int) = 2 := rfl
  simp only [e1] at hofx
  simp only [e2] at hofy
  have htx := fun w' => idtext_calls (idPad (idName 1 xs)) w' (idPad_len33 1 xs)
  have hty := fun w' => idtext_calls (idPad (idName 2 bs)) w' (idPad_len33 2 bs)
  have hgx := fun w' => idgood_calls (idPad (idName 1 xs)) w' (idPad_len33 1 xs)
  have hgy := fun w' => idgood_calls (idPad (idName 2 bs)) w' (idPad_len33 2 bs)
  rw [idText_of _ (by decide)] at htx hty
  rw [idGood_of _ (by decide)] at hgx hgy
  have hnn : idName 1 xs ≠ idName 2 bs := by
    unfold idName
    rw [if_pos rfl, if_neg (by decide), if_pos rfl]
    intro e
    injection e with e
    cases e
  have hpn : idPad (idName 1 xs) ≠ idPad (idName 2 bs) := by
    unfold idName idPad
    rw [if_pos rfl, if_neg (by decide), if_pos rfl]
    intro e
    injection e with e
    cases e
  have heq := fun w' => id_equal (idPad (idName 1 xs)) (idPad (idName 1 xs)) (idPad_len33 1 xs) (idPad_len33 1 xs) w'
  rw [beq_self_eq_true] at heq
  have hne := fun w' => id_equal (idPad (idName 1 xs)) (idPad (idName 2 bs)) (idPad_len33 1 xs) (idPad_len33 2 bs) w'
  rw [beq_eq_false_iff_ne.2 hpn] at hne
  unfold idv at hofx hofy htx hty hgx hgy
  have sz : ∀ {x : List UInt8}, x.length = 33 → (bv x).toArray.size = 33 := fun h => by rw [List.size_toArray, bv_len, h]
  exact parts_way A A' n c m c' xs bs _ _ _ _ w ha hb (Lib.hid hn) hc hc' h1 h2 hT (sz (idPad_len33 1 xs)) (sz (idPad_len33 2 bs)) (bv_cells _) (bv_cells _) hofx hofy htx hty hgx hgy heq hne (str_beq_ne hnn)
end Go.Proofs.YtnccmcnmoccfmaaDoor
