/- IdentNames: Of and Size answer what the document says: the walk of the law. Printed by wip/mkidentnames.py. -/
import Derived.Test.YtnccmcnmoccfmaaDoorIdentLaw
namespace Go.Proofs.YtnccmcnmoccfmaaDoor
open Go.RowKit
set_option linter.unusedVariables false

set_option maxRecDepth 50000 in
set_option maxHeartbeats 4000000 in
theorem names_one (k : UInt8) (A : Option Addr) (n c : Nat) (bs B : List UInt8) (w : World) (hb : Cells w A (bv bs)) (hc : n ≤ c) (hT : Tab w) (h1 : ¬ 4096 < n) (Hn : Hid (bs.length = n)) (hBl : B.length = 33)
    (hof : ∀ w', Cells w' A (bv bs) → Tab w' → Calls Tryd.prog 9 #[.int .u8 k.toNat, .slice A n c] w' fun e w'' => e = .returned (.agg (bv B).toArray) ∧ Ext w' w'')
    (hrof : ∀ w', Calls Tryd.prog 10 #[.int .u8 k.toNat, .string (bstr bs)] w' fun e w'' => e = .returned (.agg (bv B).toArray) ∧ Ext w' w'')
    (heq : ∀ w', (Op.equalIn 10000 26 (.agg (bv B).toArray) (.agg (bv B).toArray)).run Tryd.prog w' = .ok true w') (e1 : ((k.toNat : Int) == 1) = true) :
    Calls Tryd.prog 3 #[.int .u8 k.toNat, .slice A n c] w fun e w' => e = .returned (.bool true) ∧ Ext w w' := by
  have hpl : (bv B).toArray.size = 33 := by rw [List.size_toArray, bv_len, hBl]
  go_enter Tryd.func3, Tryd.ntmps3
  go_wp2_with (first
    | (go_at_call 8; (with_reducible refine (ident_alive _ hT).mono ?_); rintro e w1 ⟨rfl, hx1⟩)
    | (go_at_call 9; (with_reducible refine (hof _ (hb.ext hx1) (hT.ext hx1)).mono ?_); rintro e w3 ⟨rfl, hx3⟩; have hx13 := hx1.trans hx3)
    | (refine wpList_store_blk rfl 26 (.tmp 5) (.tmp 13) rfl rfl w3.heap.size (bv B).toArray rfl rfl _ _ (Blk.new_at rfl _ _) (by rw [hpl]; rfl) (by kernel_rfl) (bv_cells _) ?_; intro w2 hbG hgG; have hx2 : Ext w w2 := (hx13.alloc _).grown_ hgG (by intro k hk; cases hk; exact hx13.size)))
  obtain ⟨g, hgw⟩ : ∃ g, g = w3.heap.size := ⟨_, rfl⟩
  rw [← hgw] at hbG ⊢
  clear hgw hgG
  refine wp_region_ops (RInv [14, 15, 16, 17, 18, 19, 20, 21, 22, 23, 24, 25, 26, 27, 28, 29, 30, 31, 32, 33, 34, 35, 36, 37, 38, 39, 4] _ w2.drew [(0, 14, .agg (bv B).toArray), (1, 15, .int .u8 k.toNat), (2, 16, .slice A n c), (3, 17, .string (bstr bs)), (4, 18, .agg (bv B).toArray), (5, 19, .bool true), (6, 20, .bool true), (7, 21, .int .u8 k.toNat), (8, 22, .int .i64 (idN k : Int)), (9, 23, .int .u8 k.toNat), (10, 24, .int .i64 (idN k : Int)), (11, 25, .bool true), (12, 26, .bool true), (13, 27, .bool true), (14, 28, .int .u8 k.toNat), (15, 29, .bool true), (16, 30, .bool true), (17, 31, undef), (18, 32, undef), (19, 33, .bool true), (20, 34, .bool true), (21, 35, undef), (22, 36, undef), (23, 37, undef), (24, 38, .bool true), (25, 39, .bool true), (26, 4, .bool true)] []) (by kernel_rfl) (by kernel_rfl) RInv.start ?_ ?_
  · refine ⟨?o0, ?o1, ?o2, ?o3, ?o4, ?o5, ?o6, ?o7, ?o8, ?o9, ?o10, ?o11, ?o12, ?o13, ?o14, ?o15, ?o16, ?o17, ?o18, ?o19, ?o20, ?o21, ?o22, ?o23, ?o24, ?o25, ?o26, trivial⟩
    case o0 =>
      intro f a u h hfi hp hq
      have q5 : a.eval (.tmp 5) = .pointer (some ⟨g, 0, none⟩) := h.agree.eval (by decide)
      exact h.yieldW rfl (wanted_none rfl) 14 rfl (by change 14 < 40; decide) rfl _ rfl (run_of_sem rfl (by rw [q5]; exact run_load_blk (hbG.drew.ext h.ext) Tryd.underlying26 rfl (by rw [hpl]; kernel_rfl)))
    case o1 =>
      intro f a u h hfi hp hq
      have q0 : a.tmps[0]?.getD undef = .int .u8 k.toNat := h.agree.att (by decide)
      exact h.yieldW rfl (wanted_none rfl) 15 rfl (by change 15 < 40; decide) rfl _ rfl (by go_simp)
    case o2 =>
      intro f a u h hfi hp hq
      have q1 : a.tmps[1]?.getD undef = .slice A n c := h.agree.att (by decide)
      exact h.yieldW rfl (wanted_none rfl) 16 rfl (by change 16 < 40; decide) rfl _ rfl (by go_simp)
    case o3 =>
      intro f a u h hfi hp hq
      have q16 := h.att 2 rfl (pre_of hp 2 rfl)
      have z := conv_str (P := Tryd.prog) (c := c) Tryd.underlying22 Tryd.underlying5 Tryd.underlying9 Hn.out ((hb.ext (hx2.drew)).ext h.ext)
      exact h.yieldW rfl (wanted_none rfl) 17 rfl (by change 17 < 40; decide) rfl _ rfl (by go_simp)
    case o4 =>
      intro f a u h hfi hp hq
      exact h.callW rfl (wanted_none rfl) 18 rfl (by change 18 < 40; decide) rfl _ rfl 10 #[.tmp 15, .tmp 17] #[5, 9] _ rfl (by kernel_rfl) (by rw [arr2, h.at_ 1 rfl (pre_of hp 1 rfl), h.at_ 3 rfl (pre_of hp 3 rfl)]) (hrof u)
    case o5 =>
      intro f a u h hfi hp hq
      have q14 := h.att 0 rfl (pre_of hp 0 rfl)
      have q18 := h.att 4 rfl (pre_of hp 4 rfl)
      have z := heq u
      exact h.yieldW rfl (wanted_none rfl) 19 rfl (by change 19 < 40; decide) rfl _ rfl (by go_simp)
    case o6 =>
      intro f a u h hfi hp hq
      have q19 := h.att 5 rfl (pre_of hp 5 rfl)
      exact h.yieldW rfl (wanted_none rfl) 20 rfl (by change 20 < 40; decide) rfl _ rfl (by go_simp)
    case o7 =>
      intro f a u h hfi hp hq
      have q0 : a.tmps[0]?.getD undef = .int .u8 k.toNat := h.agree.att (by decide)
      exact h.yieldW rfl (wanted_yes (g := 6) (d' := 20) rfl rfl (h.at_ 6 rfl (pre_of hp 6 rfl))) 21 rfl (by change 21 < 40; decide) rfl _ rfl (by go_simp)
    case o8 =>
      intro f a u h hfi hp hq
      exact h.callW rfl (wanted_yes (g := 6) (d' := 20) rfl rfl (h.at_ 6 rfl (pre_of hp 6 rfl))) 22 rfl (by change 22 < 40; decide) rfl _ rfl 11 #[.tmp 21] #[5] _ rfl (by kernel_rfl) (by rw [arr1, h.at_ 7 rfl (pre_of hp 7 rfl)]) ((size_calls k u).mono fun e w' h => ⟨h.1, h.2 ▸ Ext.refl _⟩)
    case o9 =>
      intro f a u h hfi hp hq
      have q0 : a.tmps[0]?.getD undef = .int .u8 k.toNat := h.agree.att (by decide)
      exact h.yieldW rfl (wanted_yes (g := 6) (d' := 20) rfl rfl (h.at_ 6 rfl (pre_of hp 6 rfl))) 23 rfl (by change 23 < 40; decide) rfl _ rfl (by go_simp)
    case o10 =>
      intro f a u h hfi hp hq
      exact h.callW rfl (wanted_yes (g := 6) (d' := 20) rfl rfl (h.at_ 6 rfl (pre_of hp 6 rfl))) 24 rfl (by change 24 < 40; decide) rfl _ rfl 12 #[.tmp 23] #[5] _ rfl (by kernel_rfl) (by rw [arr1, h.at_ 9 rfl (pre_of hp 9 rfl)]) ((rsize_calls k u).mono fun e w' h => ⟨h.1, h.2 ▸ Ext.refl _⟩)
    case o11 =>
      intro f a u h hfi hp hq
      have q22 := h.att 8 rfl (pre_of hp 8 rfl)
      have q24 := h.att 10 rfl (pre_of hp 10 rfl)
      exact h.yieldW rfl (wanted_yes (g := 6) (d' := 20) rfl rfl (h.at_ 6 rfl (pre_of hp 6 rfl))) 25 rfl (by change 25 < 40; decide) rfl _ rfl (by go_simp)
    case o12 =>
      intro f a u h hfi hp hq
      have q20 := h.att 6 rfl (pre_of hp 6 rfl)
      have q25 := h.att 11 rfl (pre_of hp 11 rfl)
      exact h.yieldW rfl (wanted_none rfl) 26 rfl (by change 26 < 40; decide) rfl _ rfl (by go_simp)
    case o13 =>
      intro f a u h hfi hp hq
      have q26 := h.att 12 rfl (pre_of hp 12 rfl)
      exact h.yieldW rfl (wanted_none rfl) 27 rfl (by change 27 < 40; decide) rfl _ rfl (by go_simp)
    case o14 =>
      intro f a u h hfi hp hq
      have q0 : a.tmps[0]?.getD undef = .int .u8 k.toNat := h.agree.att (by decide)
      exact h.yieldW rfl (wanted_yes (g := 13) (d' := 27) rfl rfl (h.at_ 13 rfl (pre_of hp 13 rfl))) 28 rfl (by change 28 < 40; decide) rfl _ rfl (by go_simp)
    case o15 =>
      intro f a u h hfi hp hq
      have q28 := h.att 14 rfl (pre_of hp 14 rfl)
      exact h.yieldW rfl (wanted_yes (g := 13) (d' := 27) rfl rfl (h.at_ 13 rfl (pre_of hp 13 rfl))) 29 rfl (by change 29 < 40; decide) rfl _ rfl (by go_simp)
    case o16 =>
      intro f a u h hfi hp hq
      have q29 := h.att 15 rfl (pre_of hp 15 rfl)
      exact h.yieldW rfl (wanted_yes (g := 13) (d' := 27) rfl rfl (h.at_ 13 rfl (pre_of hp 13 rfl))) 30 rfl (by change 30 < 40; decide) rfl _ rfl (by go_simp)
    case o17 =>
      intro f a u h hfi hp hq
      exact h.skip rfl (wanted_not (g := 16) (d' := 30) rfl rfl (h.at_ 16 rfl (pre_of hp 16 rfl)) rfl) 31 rfl (by change 31 < 40; decide) rfl rfl
    case o18 =>
      intro f a u h hfi hp hq
      exact h.skip rfl (wanted_not (g := 16) (d' := 30) rfl rfl (h.at_ 16 rfl (pre_of hp 16 rfl)) rfl) 32 rfl (by change 32 < 40; decide) rfl rfl
    case o19 =>
      intro f a u h hfi hp hq
      have q30 := h.att 16 rfl (pre_of hp 16 rfl)
      have q32 := h.att 18 rfl (pre_of hp 18 rfl)
      exact h.yieldW rfl (wanted_yes (g := 13) (d' := 27) rfl rfl (h.at_ 13 rfl (pre_of hp 13 rfl))) 33 rfl (by change 33 < 40; decide) rfl _ rfl (by go_simp)
    case o20 =>
      intro f a u h hfi hp hq
      have q33 := h.att 19 rfl (pre_of hp 19 rfl)
      exact h.yieldW rfl (wanted_yes (g := 13) (d' := 27) rfl rfl (h.at_ 13 rfl (pre_of hp 13 rfl))) 34 rfl (by change 34 < 40; decide) rfl _ rfl (by go_simp)
    case o21 =>
      intro f a u h hfi hp hq
      exact h.skip rfl (wanted_not (g := 20) (d' := 34) rfl rfl (h.at_ 20 rfl (pre_of hp 20 rfl)) rfl) 35 rfl (by change 35 < 40; decide) rfl rfl
    case o22 =>
      intro f a u h hfi hp hq
      exact h.skip rfl (wanted_not (g := 20) (d' := 34) rfl rfl (h.at_ 20 rfl (pre_of hp 20 rfl)) rfl) 36 rfl (by change 36 < 40; decide) rfl rfl
    case o23 =>
      intro f a u h hfi hp hq
      exact h.skip rfl (wanted_not (g := 20) (d' := 34) rfl rfl (h.at_ 20 rfl (pre_of hp 20 rfl)) rfl) 37 rfl (by change 37 < 40; decide) rfl rfl
    case o24 =>
      intro f a u h hfi hp hq
      have q34 := h.att 20 rfl (pre_of hp 20 rfl)
      have q37 := h.att 23 rfl (pre_of hp 23 rfl)
      exact h.yieldW rfl (wanted_yes (g := 13) (d' := 27) rfl rfl (h.at_ 13 rfl (pre_of hp 13 rfl))) 38 rfl (by change 38 < 40; decide) rfl _ rfl (by go_simp)
    case o25 =>
      intro f a u h hfi hp hq
      have q27 := h.att 13 rfl (pre_of hp 13 rfl)
      have q38 := h.att 24 rfl (pre_of hp 24 rfl)
      exact h.yieldW rfl (wanted_none rfl) 39 rfl (by change 39 < 40; decide) rfl _ rfl (by go_simp)
    case o26 =>
      intro f a u h hfi hp hq
      have q39 := h.att 25 rfl (pre_of hp 25 rfl)
      exact h.yieldW rfl (wanted_none rfl) 4 rfl (by change 4 < 40; decide) rfl _ rfl (by go_simp)
  · intro f a u h hall hfar
    have hag := h.agree.out
    have e4 := h.at_ 26 rfl (hall 26 (by decide))
    have hxe := hx2.drew.trans h.ext
    simp only [List.foldl_cons, List.foldl_nil, Act.put, List.setIfInBounds_toArray, List.set_cons_zero, List.set_cons_succ, e4] at hag
    generalize a.eval (.tmp 14) = y14 at hag
    generalize a.eval (.tmp 15) = y15 at hag
    generalize a.eval (.tmp 16) = y16 at hag
    generalize a.eval (.tmp 17) = y17 at hag
    generalize a.eval (.tmp 18) = y18 at hag
    generalize a.eval (.tmp 19) = y19 at hag
    generalize a.eval (.tmp 20) = y20 at hag
    generalize a.eval (.tmp 21) = y21 at hag
    generalize a.eval (.tmp 22) = y22 at hag
    generalize a.eval (.tmp 23) = y23 at hag
    generalize a.eval (.tmp 24) = y24 at hag
    generalize a.eval (.tmp 25) = y25 at hag
    generalize a.eval (.tmp 26) = y26 at hag
    generalize a.eval (.tmp 27) = y27 at hag
    generalize a.eval (.tmp 28) = y28 at hag
    generalize a.eval (.tmp 29) = y29 at hag
    generalize a.eval (.tmp 30) = y30 at hag
    generalize a.eval (.tmp 31) = y31 at hag
    generalize a.eval (.tmp 32) = y32 at hag
    generalize a.eval (.tmp 33) = y33 at hag
    generalize a.eval (.tmp 34) = y34 at hag
    generalize a.eval (.tmp 35) = y35 at hag
    generalize a.eval (.tmp 36) = y36 at hag
    generalize a.eval (.tmp 37) = y37 at hag
    generalize a.eval (.tmp 38) = y38 at hag
    generalize a.eval (.tmp 39) = y39 at hag
    clear h e4 hall hfar
    subst hag
    go_wp2
    go_ret
    exact ⟨rfl, hxe⟩

set_option maxRecDepth 50000 in
set_option maxHeartbeats 4000000 in
theorem names_two (k : UInt8) (A : Option Addr) (n c : Nat) (bs B : List UInt8) (w : World) (hb : Cells w A (bv bs)) (hc : n ≤ c) (hT : Tab w) (h1 : ¬ 4096 < n) (Hn : Hid (bs.length = n)) (hBl : B.length = 33)
    (hof : ∀ w', Cells w' A (bv bs) → Tab w' → Calls Tryd.prog 9 #[.int .u8 k.toNat, .slice A n c] w' fun e w'' => e = .returned (.agg (bv B).toArray) ∧ Ext w' w'')
    (hrof : ∀ w', Calls Tryd.prog 10 #[.int .u8 k.toNat, .string (bstr bs)] w' fun e w'' => e = .returned (.agg (bv B).toArray) ∧ Ext w' w'')
    (heq : ∀ w', (Op.equalIn 10000 26 (.agg (bv B).toArray) (.agg (bv B).toArray)).run Tryd.prog w' = .ok true w') (e1 : ((k.toNat : Int) == 1) = false) (e2 : ((k.toNat : Int) == 2) = true) :
    Calls Tryd.prog 3 #[.int .u8 k.toNat, .slice A n c] w fun e w' => e = .returned (.bool true) ∧ Ext w w' := by
  have hpl : (bv B).toArray.size = 33 := by rw [List.size_toArray, bv_len, hBl]
  go_enter Tryd.func3, Tryd.ntmps3
  go_wp2_with (first
    | (go_at_call 8; (with_reducible refine (ident_alive _ hT).mono ?_); rintro e w1 ⟨rfl, hx1⟩)
    | (go_at_call 9; (with_reducible refine (hof _ (hb.ext hx1) (hT.ext hx1)).mono ?_); rintro e w3 ⟨rfl, hx3⟩; have hx13 := hx1.trans hx3)
    | (refine wpList_store_blk rfl 26 (.tmp 5) (.tmp 13) rfl rfl w3.heap.size (bv B).toArray rfl rfl _ _ (Blk.new_at rfl _ _) (by rw [hpl]; rfl) (by kernel_rfl) (bv_cells _) ?_; intro w2 hbG hgG; have hx2 : Ext w w2 := (hx13.alloc _).grown_ hgG (by intro k hk; cases hk; exact hx13.size)))
  obtain ⟨g, hgw⟩ : ∃ g, g = w3.heap.size := ⟨_, rfl⟩
  rw [← hgw] at hbG ⊢
  clear hgw hgG
  refine wp_region_ops (RInv [14, 15, 16, 17, 18, 19, 20, 21, 22, 23, 24, 25, 26, 27, 28, 29, 30, 31, 32, 33, 34, 35, 36, 37, 38, 39, 4] _ w2.drew [(0, 14, .agg (bv B).toArray), (1, 15, .int .u8 k.toNat), (2, 16, .slice A n c), (3, 17, .string (bstr bs)), (4, 18, .agg (bv B).toArray), (5, 19, .bool true), (6, 20, .bool true), (7, 21, .int .u8 k.toNat), (8, 22, .int .i64 (idN k : Int)), (9, 23, .int .u8 k.toNat), (10, 24, .int .i64 (idN k : Int)), (11, 25, .bool true), (12, 26, .bool true), (13, 27, .bool true), (14, 28, .int .u8 k.toNat), (15, 29, .bool false), (16, 30, .bool false), (17, 31, .int .u8 k.toNat), (18, 32, .bool true), (19, 33, .bool true), (20, 34, .bool true), (21, 35, undef), (22, 36, undef), (23, 37, undef), (24, 38, .bool true), (25, 39, .bool true), (26, 4, .bool true)] []) (by kernel_rfl) (by kernel_rfl) RInv.start ?_ ?_
  · refine ⟨?o0, ?o1, ?o2, ?o3, ?o4, ?o5, ?o6, ?o7, ?o8, ?o9, ?o10, ?o11, ?o12, ?o13, ?o14, ?o15, ?o16, ?o17, ?o18, ?o19, ?o20, ?o21, ?o22, ?o23, ?o24, ?o25, ?o26, trivial⟩
    case o0 =>
      intro f a u h hfi hp hq
      have q5 : a.eval (.tmp 5) = .pointer (some ⟨g, 0, none⟩) := h.agree.eval (by decide)
      exact h.yieldW rfl (wanted_none rfl) 14 rfl (by change 14 < 40; decide) rfl _ rfl (run_of_sem rfl (by rw [q5]; exact run_load_blk (hbG.drew.ext h.ext) Tryd.underlying26 rfl (by rw [hpl]; kernel_rfl)))
    case o1 =>
      intro f a u h hfi hp hq
      have q0 : a.tmps[0]?.getD undef = .int .u8 k.toNat := h.agree.att (by decide)
      exact h.yieldW rfl (wanted_none rfl) 15 rfl (by change 15 < 40; decide) rfl _ rfl (by go_simp)
    case o2 =>
      intro f a u h hfi hp hq
      have q1 : a.tmps[1]?.getD undef = .slice A n c := h.agree.att (by decide)
      exact h.yieldW rfl (wanted_none rfl) 16 rfl (by change 16 < 40; decide) rfl _ rfl (by go_simp)
    case o3 =>
      intro f a u h hfi hp hq
      have q16 := h.att 2 rfl (pre_of hp 2 rfl)
      have z := conv_str (P := Tryd.prog) (c := c) Tryd.underlying22 Tryd.underlying5 Tryd.underlying9 Hn.out ((hb.ext (hx2.drew)).ext h.ext)
      exact h.yieldW rfl (wanted_none rfl) 17 rfl (by change 17 < 40; decide) rfl _ rfl (by go_simp)
    case o4 =>
      intro f a u h hfi hp hq
      exact h.callW rfl (wanted_none rfl) 18 rfl (by change 18 < 40; decide) rfl _ rfl 10 #[.tmp 15, .tmp 17] #[5, 9] _ rfl (by kernel_rfl) (by rw [arr2, h.at_ 1 rfl (pre_of hp 1 rfl), h.at_ 3 rfl (pre_of hp 3 rfl)]) (hrof u)
    case o5 =>
      intro f a u h hfi hp hq
      have q14 := h.att 0 rfl (pre_of hp 0 rfl)
      have q18 := h.att 4 rfl (pre_of hp 4 rfl)
      have z := heq u
      exact h.yieldW rfl (wanted_none rfl) 19 rfl (by change 19 < 40; decide) rfl _ rfl (by go_simp)
    case o6 =>
      intro f a u h hfi hp hq
      have q19 := h.att 5 rfl (pre_of hp 5 rfl)
      exact h.yieldW rfl (wanted_none rfl) 20 rfl (by change 20 < 40; decide) rfl _ rfl (by go_simp)
    case o7 =>
      intro f a u h hfi hp hq
      have q0 : a.tmps[0]?.getD undef = .int .u8 k.toNat := h.agree.att (by decide)
      exact h.yieldW rfl (wanted_yes (g := 6) (d' := 20) rfl rfl (h.at_ 6 rfl (pre_of hp 6 rfl))) 21 rfl (by change 21 < 40; decide) rfl _ rfl (by go_simp)
    case o8 =>
      intro f a u h hfi hp hq
      exact h.callW rfl (wanted_yes (g := 6) (d' := 20) rfl rfl (h.at_ 6 rfl (pre_of hp 6 rfl))) 22 rfl (by change 22 < 40; decide) rfl _ rfl 11 #[.tmp 21] #[5] _ rfl (by kernel_rfl) (by rw [arr1, h.at_ 7 rfl (pre_of hp 7 rfl)]) ((size_calls k u).mono fun e w' h => ⟨h.1, h.2 ▸ Ext.refl _⟩)
    case o9 =>
      intro f a u h hfi hp hq
      have q0 : a.tmps[0]?.getD undef = .int .u8 k.toNat := h.agree.att (by decide)
      exact h.yieldW rfl (wanted_yes (g := 6) (d' := 20) rfl rfl (h.at_ 6 rfl (pre_of hp 6 rfl))) 23 rfl (by change 23 < 40; decide) rfl _ rfl (by go_simp)
    case o10 =>
      intro f a u h hfi hp hq
      exact h.callW rfl (wanted_yes (g := 6) (d' := 20) rfl rfl (h.at_ 6 rfl (pre_of hp 6 rfl))) 24 rfl (by change 24 < 40; decide) rfl _ rfl 12 #[.tmp 23] #[5] _ rfl (by kernel_rfl) (by rw [arr1, h.at_ 9 rfl (pre_of hp 9 rfl)]) ((rsize_calls k u).mono fun e w' h => ⟨h.1, h.2 ▸ Ext.refl _⟩)
    case o11 =>
      intro f a u h hfi hp hq
      have q22 := h.att 8 rfl (pre_of hp 8 rfl)
      have q24 := h.att 10 rfl (pre_of hp 10 rfl)
      exact h.yieldW rfl (wanted_yes (g := 6) (d' := 20) rfl rfl (h.at_ 6 rfl (pre_of hp 6 rfl))) 25 rfl (by change 25 < 40; decide) rfl _ rfl (by go_simp)
    case o12 =>
      intro f a u h hfi hp hq
      have q20 := h.att 6 rfl (pre_of hp 6 rfl)
      have q25 := h.att 11 rfl (pre_of hp 11 rfl)
      exact h.yieldW rfl (wanted_none rfl) 26 rfl (by change 26 < 40; decide) rfl _ rfl (by go_simp)
    case o13 =>
      intro f a u h hfi hp hq
      have q26 := h.att 12 rfl (pre_of hp 12 rfl)
      exact h.yieldW rfl (wanted_none rfl) 27 rfl (by change 27 < 40; decide) rfl _ rfl (by go_simp)
    case o14 =>
      intro f a u h hfi hp hq
      have q0 : a.tmps[0]?.getD undef = .int .u8 k.toNat := h.agree.att (by decide)
      exact h.yieldW rfl (wanted_yes (g := 13) (d' := 27) rfl rfl (h.at_ 13 rfl (pre_of hp 13 rfl))) 28 rfl (by change 28 < 40; decide) rfl _ rfl (by go_simp)
    case o15 =>
      intro f a u h hfi hp hq
      have q28 := h.att 14 rfl (pre_of hp 14 rfl)
      exact h.yieldW rfl (wanted_yes (g := 13) (d' := 27) rfl rfl (h.at_ 13 rfl (pre_of hp 13 rfl))) 29 rfl (by change 29 < 40; decide) rfl _ rfl (by go_simp)
    case o16 =>
      intro f a u h hfi hp hq
      have q29 := h.att 15 rfl (pre_of hp 15 rfl)
      exact h.yieldW rfl (wanted_yes (g := 13) (d' := 27) rfl rfl (h.at_ 13 rfl (pre_of hp 13 rfl))) 30 rfl (by change 30 < 40; decide) rfl _ rfl (by go_simp)
    case o17 =>
      intro f a u h hfi hp hq
      have q0 : a.tmps[0]?.getD undef = .int .u8 k.toNat := h.agree.att (by decide)
      exact h.yieldW rfl (wanted_yes (g := 16) (d' := 30) rfl rfl (h.at_ 16 rfl (pre_of hp 16 rfl))) 31 rfl (by change 31 < 40; decide) rfl _ rfl (by go_simp)
    case o18 =>
      intro f a u h hfi hp hq
      have q31 := h.att 17 rfl (pre_of hp 17 rfl)
      exact h.yieldW rfl (wanted_yes (g := 16) (d' := 30) rfl rfl (h.at_ 16 rfl (pre_of hp 16 rfl))) 32 rfl (by change 32 < 40; decide) rfl _ rfl (by go_simp)
    case o19 =>
      intro f a u h hfi hp hq
      have q30 := h.att 16 rfl (pre_of hp 16 rfl)
      have q32 := h.att 18 rfl (pre_of hp 18 rfl)
      exact h.yieldW rfl (wanted_yes (g := 13) (d' := 27) rfl rfl (h.at_ 13 rfl (pre_of hp 13 rfl))) 33 rfl (by change 33 < 40; decide) rfl _ rfl (by go_simp)
    case o20 =>
      intro f a u h hfi hp hq
      have q33 := h.att 19 rfl (pre_of hp 19 rfl)
      exact h.yieldW rfl (wanted_yes (g := 13) (d' := 27) rfl rfl (h.at_ 13 rfl (pre_of hp 13 rfl))) 34 rfl (by change 34 < 40; decide) rfl _ rfl (by go_simp)
    case o21 =>
      intro f a u h hfi hp hq
      exact h.skip rfl (wanted_not (g := 20) (d' := 34) rfl rfl (h.at_ 20 rfl (pre_of hp 20 rfl)) rfl) 35 rfl (by change 35 < 40; decide) rfl rfl
    case o22 =>
      intro f a u h hfi hp hq
      exact h.skip rfl (wanted_not (g := 20) (d' := 34) rfl rfl (h.at_ 20 rfl (pre_of hp 20 rfl)) rfl) 36 rfl (by change 36 < 40; decide) rfl rfl
    case o23 =>
      intro f a u h hfi hp hq
      exact h.skip rfl (wanted_not (g := 20) (d' := 34) rfl rfl (h.at_ 20 rfl (pre_of hp 20 rfl)) rfl) 37 rfl (by change 37 < 40; decide) rfl rfl
    case o24 =>
      intro f a u h hfi hp hq
      have q34 := h.att 20 rfl (pre_of hp 20 rfl)
      have q37 := h.att 23 rfl (pre_of hp 23 rfl)
      exact h.yieldW rfl (wanted_yes (g := 13) (d' := 27) rfl rfl (h.at_ 13 rfl (pre_of hp 13 rfl))) 38 rfl (by change 38 < 40; decide) rfl _ rfl (by go_simp)
    case o25 =>
      intro f a u h hfi hp hq
      have q27 := h.att 13 rfl (pre_of hp 13 rfl)
      have q38 := h.att 24 rfl (pre_of hp 24 rfl)
      exact h.yieldW rfl (wanted_none rfl) 39 rfl (by change 39 < 40; decide) rfl _ rfl (by go_simp)
    case o26 =>
      intro f a u h hfi hp hq
      have q39 := h.att 25 rfl (pre_of hp 25 rfl)
      exact h.yieldW rfl (wanted_none rfl) 4 rfl (by change 4 < 40; decide) rfl _ rfl (by go_simp)
  · intro f a u h hall hfar
    have hag := h.agree.out
    have e4 := h.at_ 26 rfl (hall 26 (by decide))
    have hxe := hx2.drew.trans h.ext
    simp only [List.foldl_cons, List.foldl_nil, Act.put, List.setIfInBounds_toArray, List.set_cons_zero, List.set_cons_succ, e4] at hag
    generalize a.eval (.tmp 14) = y14 at hag
    generalize a.eval (.tmp 15) = y15 at hag
    generalize a.eval (.tmp 16) = y16 at hag
    generalize a.eval (.tmp 17) = y17 at hag
    generalize a.eval (.tmp 18) = y18 at hag
    generalize a.eval (.tmp 19) = y19 at hag
    generalize a.eval (.tmp 20) = y20 at hag
    generalize a.eval (.tmp 21) = y21 at hag
    generalize a.eval (.tmp 22) = y22 at hag
    generalize a.eval (.tmp 23) = y23 at hag
    generalize a.eval (.tmp 24) = y24 at hag
    generalize a.eval (.tmp 25) = y25 at hag
    generalize a.eval (.tmp 26) = y26 at hag
    generalize a.eval (.tmp 27) = y27 at hag
    generalize a.eval (.tmp 28) = y28 at hag
    generalize a.eval (.tmp 29) = y29 at hag
    generalize a.eval (.tmp 30) = y30 at hag
    generalize a.eval (.tmp 31) = y31 at hag
    generalize a.eval (.tmp 32) = y32 at hag
    generalize a.eval (.tmp 33) = y33 at hag
    generalize a.eval (.tmp 34) = y34 at hag
    generalize a.eval (.tmp 35) = y35 at hag
    generalize a.eval (.tmp 36) = y36 at hag
    generalize a.eval (.tmp 37) = y37 at hag
    generalize a.eval (.tmp 38) = y38 at hag
    generalize a.eval (.tmp 39) = y39 at hag
    clear h e4 hall hfar
    subst hag
    go_wp2
    go_ret
    exact ⟨rfl, hxe⟩

set_option maxRecDepth 50000 in
set_option maxHeartbeats 4000000 in
theorem names_none (k : UInt8) (A : Option Addr) (n c : Nat) (bs B : List UInt8) (w : World) (hb : Cells w A (bv bs)) (hc : n ≤ c) (hT : Tab w) (h1 : ¬ 4096 < n) (Hn : Hid (bs.length = n)) (hBl : B.length = 33)
    (hof : ∀ w', Cells w' A (bv bs) → Tab w' → Calls Tryd.prog 9 #[.int .u8 k.toNat, .slice A n c] w' fun e w'' => e = .returned (.agg (bv B).toArray) ∧ Ext w' w'')
    (hrof : ∀ w', Calls Tryd.prog 10 #[.int .u8 k.toNat, .string (bstr bs)] w' fun e w'' => e = .returned (.agg (bv B).toArray) ∧ Ext w' w'')
    (heq : ∀ w', (Op.equalIn 10000 26 (.agg (bv B).toArray) (.agg (bv B).toArray)).run Tryd.prog w' = .ok true w') (e1 : ((k.toNat : Int) == 1) = false) (e2 : ((k.toNat : Int) == 2) = false) (HB0 : Hid (B = idNone)) :
    Calls Tryd.prog 3 #[.int .u8 k.toNat, .slice A n c] w fun e w' => e = .returned (.bool true) ∧ Ext w w' := by
  have hpl : (bv B).toArray.size = 33 := by rw [List.size_toArray, bv_len, hBl]
  go_enter Tryd.func3, Tryd.ntmps3
  go_wp2_with (first
    | (go_at_call 8; (with_reducible refine (ident_alive _ hT).mono ?_); rintro e w1 ⟨rfl, hx1⟩)
    | (go_at_call 9; (with_reducible refine (hof _ (hb.ext hx1) (hT.ext hx1)).mono ?_); rintro e w3 ⟨rfl, hx3⟩; have hx13 := hx1.trans hx3)
    | (refine wpList_store_blk rfl 26 (.tmp 5) (.tmp 13) rfl rfl w3.heap.size (bv B).toArray rfl rfl _ _ (Blk.new_at rfl _ _) (by rw [hpl]; rfl) (by kernel_rfl) (bv_cells _) ?_; intro w2 hbG hgG; have hx2 : Ext w w2 := (hx13.alloc _).grown_ hgG (by intro k hk; cases hk; exact hx13.size)))
  obtain ⟨g, hgw⟩ : ∃ g, g = w3.heap.size := ⟨_, rfl⟩
  rw [← hgw] at hbG ⊢
  clear hgw hgG
  refine wp_region_ops (RInv [14, 15, 16, 17, 18, 19, 20, 21, 22, 23, 24, 25, 26, 27, 28, 29, 30, 31, 32, 33, 34, 35, 36, 37, 38, 39, 4] _ w2.drew [(0, 14, .agg (bv B).toArray), (1, 15, .int .u8 k.toNat), (2, 16, .slice A n c), (3, 17, .string (bstr bs)), (4, 18, .agg (bv B).toArray), (5, 19, .bool true), (6, 20, .bool true), (7, 21, .int .u8 k.toNat), (8, 22, .int .i64 (idN k : Int)), (9, 23, .int .u8 k.toNat), (10, 24, .int .i64 (idN k : Int)), (11, 25, .bool true), (12, 26, .bool true), (13, 27, .bool true), (14, 28, .int .u8 k.toNat), (15, 29, .bool false), (16, 30, .bool false), (17, 31, .int .u8 k.toNat), (18, 32, .bool false), (19, 33, .bool false), (20, 34, .bool false), (21, 35, .agg (bv B).toArray), (22, 36, .agg (bv B).toArray), (23, 37, .bool true), (24, 38, .bool true), (25, 39, .bool true), (26, 4, .bool true)] []) (by kernel_rfl) (by kernel_rfl) RInv.start ?_ ?_
  · refine ⟨?o0, ?o1, ?o2, ?o3, ?o4, ?o5, ?o6, ?o7, ?o8, ?o9, ?o10, ?o11, ?o12, ?o13, ?o14, ?o15, ?o16, ?o17, ?o18, ?o19, ?o20, ?o21, ?o22, ?o23, ?o24, ?o25, ?o26, trivial⟩
    case o0 =>
      intro f a u h hfi hp hq
      have q5 : a.eval (.tmp 5) = .pointer (some ⟨g, 0, none⟩) := h.agree.eval (by decide)
      exact h.yieldW rfl (wanted_none rfl) 14 rfl (by change 14 < 40; decide) rfl _ rfl (run_of_sem rfl (by rw [q5]; exact run_load_blk (hbG.drew.ext h.ext) Tryd.underlying26 rfl (by rw [hpl]; kernel_rfl)))
    case o1 =>
      intro f a u h hfi hp hq
      have q0 : a.tmps[0]?.getD undef = .int .u8 k.toNat := h.agree.att (by decide)
      exact h.yieldW rfl (wanted_none rfl) 15 rfl (by change 15 < 40; decide) rfl _ rfl (by go_simp)
    case o2 =>
      intro f a u h hfi hp hq
      have q1 : a.tmps[1]?.getD undef = .slice A n c := h.agree.att (by decide)
      exact h.yieldW rfl (wanted_none rfl) 16 rfl (by change 16 < 40; decide) rfl _ rfl (by go_simp)
    case o3 =>
      intro f a u h hfi hp hq
      have q16 := h.att 2 rfl (pre_of hp 2 rfl)
      have z := conv_str (P := Tryd.prog) (c := c) Tryd.underlying22 Tryd.underlying5 Tryd.underlying9 Hn.out ((hb.ext (hx2.drew)).ext h.ext)
      exact h.yieldW rfl (wanted_none rfl) 17 rfl (by change 17 < 40; decide) rfl _ rfl (by go_simp)
    case o4 =>
      intro f a u h hfi hp hq
      exact h.callW rfl (wanted_none rfl) 18 rfl (by change 18 < 40; decide) rfl _ rfl 10 #[.tmp 15, .tmp 17] #[5, 9] _ rfl (by kernel_rfl) (by rw [arr2, h.at_ 1 rfl (pre_of hp 1 rfl), h.at_ 3 rfl (pre_of hp 3 rfl)]) (hrof u)
    case o5 =>
      intro f a u h hfi hp hq
      have q14 := h.att 0 rfl (pre_of hp 0 rfl)
      have q18 := h.att 4 rfl (pre_of hp 4 rfl)
      have z := heq u
      exact h.yieldW rfl (wanted_none rfl) 19 rfl (by change 19 < 40; decide) rfl _ rfl (by go_simp)
    case o6 =>
      intro f a u h hfi hp hq
      have q19 := h.att 5 rfl (pre_of hp 5 rfl)
      exact h.yieldW rfl (wanted_none rfl) 20 rfl (by change 20 < 40; decide) rfl _ rfl (by go_simp)
    case o7 =>
      intro f a u h hfi hp hq
      have q0 : a.tmps[0]?.getD undef = .int .u8 k.toNat := h.agree.att (by decide)
      exact h.yieldW rfl (wanted_yes (g := 6) (d' := 20) rfl rfl (h.at_ 6 rfl (pre_of hp 6 rfl))) 21 rfl (by change 21 < 40; decide) rfl _ rfl (by go_simp)
    case o8 =>
      intro f a u h hfi hp hq
      exact h.callW rfl (wanted_yes (g := 6) (d' := 20) rfl rfl (h.at_ 6 rfl (pre_of hp 6 rfl))) 22 rfl (by change 22 < 40; decide) rfl _ rfl 11 #[.tmp 21] #[5] _ rfl (by kernel_rfl) (by rw [arr1, h.at_ 7 rfl (pre_of hp 7 rfl)]) ((size_calls k u).mono fun e w' h => ⟨h.1, h.2 ▸ Ext.refl _⟩)
    case o9 =>
      intro f a u h hfi hp hq
      have q0 : a.tmps[0]?.getD undef = .int .u8 k.toNat := h.agree.att (by decide)
      exact h.yieldW rfl (wanted_yes (g := 6) (d' := 20) rfl rfl (h.at_ 6 rfl (pre_of hp 6 rfl))) 23 rfl (by change 23 < 40; decide) rfl _ rfl (by go_simp)
    case o10 =>
      intro f a u h hfi hp hq
      exact h.callW rfl (wanted_yes (g := 6) (d' := 20) rfl rfl (h.at_ 6 rfl (pre_of hp 6 rfl))) 24 rfl (by change 24 < 40; decide) rfl _ rfl 12 #[.tmp 23] #[5] _ rfl (by kernel_rfl) (by rw [arr1, h.at_ 9 rfl (pre_of hp 9 rfl)]) ((rsize_calls k u).mono fun e w' h => ⟨h.1, h.2 ▸ Ext.refl _⟩)
    case o11 =>
      intro f a u h hfi hp hq
      have q22 := h.att 8 rfl (pre_of hp 8 rfl)
      have q24 := h.att 10 rfl (pre_of hp 10 rfl)
      exact h.yieldW rfl (wanted_yes (g := 6) (d' := 20) rfl rfl (h.at_ 6 rfl (pre_of hp 6 rfl))) 25 rfl (by change 25 < 40; decide) rfl _ rfl (by go_simp)
    case o12 =>
      intro f a u h hfi hp hq
      have q20 := h.att 6 rfl (pre_of hp 6 rfl)
      have q25 := h.att 11 rfl (pre_of hp 11 rfl)
      exact h.yieldW rfl (wanted_none rfl) 26 rfl (by change 26 < 40; decide) rfl _ rfl (by go_simp)
    case o13 =>
      intro f a u h hfi hp hq
      have q26 := h.att 12 rfl (pre_of hp 12 rfl)
      exact h.yieldW rfl (wanted_none rfl) 27 rfl (by change 27 < 40; decide) rfl _ rfl (by go_simp)
    case o14 =>
      intro f a u h hfi hp hq
      have q0 : a.tmps[0]?.getD undef = .int .u8 k.toNat := h.agree.att (by decide)
      exact h.yieldW rfl (wanted_yes (g := 13) (d' := 27) rfl rfl (h.at_ 13 rfl (pre_of hp 13 rfl))) 28 rfl (by change 28 < 40; decide) rfl _ rfl (by go_simp)
    case o15 =>
      intro f a u h hfi hp hq
      have q28 := h.att 14 rfl (pre_of hp 14 rfl)
      exact h.yieldW rfl (wanted_yes (g := 13) (d' := 27) rfl rfl (h.at_ 13 rfl (pre_of hp 13 rfl))) 29 rfl (by change 29 < 40; decide) rfl _ rfl (by go_simp)
    case o16 =>
      intro f a u h hfi hp hq
      have q29 := h.att 15 rfl (pre_of hp 15 rfl)
      exact h.yieldW rfl (wanted_yes (g := 13) (d' := 27) rfl rfl (h.at_ 13 rfl (pre_of hp 13 rfl))) 30 rfl (by change 30 < 40; decide) rfl _ rfl (by go_simp)
    case o17 =>
      intro f a u h hfi hp hq
      have q0 : a.tmps[0]?.getD undef = .int .u8 k.toNat := h.agree.att (by decide)
      exact h.yieldW rfl (wanted_yes (g := 16) (d' := 30) rfl rfl (h.at_ 16 rfl (pre_of hp 16 rfl))) 31 rfl (by change 31 < 40; decide) rfl _ rfl (by go_simp)
    case o18 =>
      intro f a u h hfi hp hq
      have q31 := h.att 17 rfl (pre_of hp 17 rfl)
      exact h.yieldW rfl (wanted_yes (g := 16) (d' := 30) rfl rfl (h.at_ 16 rfl (pre_of hp 16 rfl))) 32 rfl (by change 32 < 40; decide) rfl _ rfl (by go_simp)
    case o19 =>
      intro f a u h hfi hp hq
      have q30 := h.att 16 rfl (pre_of hp 16 rfl)
      have q32 := h.att 18 rfl (pre_of hp 18 rfl)
      exact h.yieldW rfl (wanted_yes (g := 13) (d' := 27) rfl rfl (h.at_ 13 rfl (pre_of hp 13 rfl))) 33 rfl (by change 33 < 40; decide) rfl _ rfl (by go_simp)
    case o20 =>
      intro f a u h hfi hp hq
      have q33 := h.att 19 rfl (pre_of hp 19 rfl)
      exact h.yieldW rfl (wanted_yes (g := 13) (d' := 27) rfl rfl (h.at_ 13 rfl (pre_of hp 13 rfl))) 34 rfl (by change 34 < 40; decide) rfl _ rfl (by go_simp)
    case o21 =>
      intro f a u h hfi hp hq
      have q5 : a.eval (.tmp 5) = .pointer (some ⟨g, 0, none⟩) := h.agree.eval (by decide)
      exact h.yieldW rfl (wanted_yes (g := 20) (d' := 34) rfl rfl (h.at_ 20 rfl (pre_of hp 20 rfl))) 35 rfl (by change 35 < 40; decide) rfl _ rfl (run_of_sem rfl (by rw [q5]; exact run_load_blk (hbG.drew.ext h.ext) Tryd.underlying26 rfl (by rw [hpl]; kernel_rfl)))
    case o22 =>
      intro f a u h hfi hp hq
      exact h.yieldW rfl (wanted_yes (g := 20) (d' := 34) rfl rfl (h.at_ 20 rfl (pre_of hp 20 rfl))) 36 rfl (by change 36 < 40; decide) rfl _ rfl (run_of_sem (exec_build rfl (arr0 _)) (by have z := build_id0 u; rw [HB0.out]; exact z))
    case o23 =>
      intro f a u h hfi hp hq
      have q35 := h.att 21 rfl (pre_of hp 21 rfl)
      have q36 := h.att 22 rfl (pre_of hp 22 rfl)
      have z := heq u
      exact h.yieldW rfl (wanted_yes (g := 20) (d' := 34) rfl rfl (h.at_ 20 rfl (pre_of hp 20 rfl))) 37 rfl (by change 37 < 40; decide) rfl _ rfl (by go_simp)
    case o24 =>
      intro f a u h hfi hp hq
      have q34 := h.att 20 rfl (pre_of hp 20 rfl)
      have q37 := h.att 23 rfl (pre_of hp 23 rfl)
      exact h.yieldW rfl (wanted_yes (g := 13) (d' := 27) rfl rfl (h.at_ 13 rfl (pre_of hp 13 rfl))) 38 rfl (by change 38 < 40; decide) rfl _ rfl (by go_simp)
    case o25 =>
      intro f a u h hfi hp hq
      have q27 := h.att 13 rfl (pre_of hp 13 rfl)
      have q38 := h.att 24 rfl (pre_of hp 24 rfl)
      exact h.yieldW rfl (wanted_none rfl) 39 rfl (by change 39 < 40; decide) rfl _ rfl (by go_simp)
    case o26 =>
      intro f a u h hfi hp hq
      have q39 := h.att 25 rfl (pre_of hp 25 rfl)
      exact h.yieldW rfl (wanted_none rfl) 4 rfl (by change 4 < 40; decide) rfl _ rfl (by go_simp)
  · intro f a u h hall hfar
    have hag := h.agree.out
    have e4 := h.at_ 26 rfl (hall 26 (by decide))
    have hxe := hx2.drew.trans h.ext
    simp only [List.foldl_cons, List.foldl_nil, Act.put, List.setIfInBounds_toArray, List.set_cons_zero, List.set_cons_succ, e4] at hag
    generalize a.eval (.tmp 14) = y14 at hag
    generalize a.eval (.tmp 15) = y15 at hag
    generalize a.eval (.tmp 16) = y16 at hag
    generalize a.eval (.tmp 17) = y17 at hag
    generalize a.eval (.tmp 18) = y18 at hag
    generalize a.eval (.tmp 19) = y19 at hag
    generalize a.eval (.tmp 20) = y20 at hag
    generalize a.eval (.tmp 21) = y21 at hag
    generalize a.eval (.tmp 22) = y22 at hag
    generalize a.eval (.tmp 23) = y23 at hag
    generalize a.eval (.tmp 24) = y24 at hag
    generalize a.eval (.tmp 25) = y25 at hag
    generalize a.eval (.tmp 26) = y26 at hag
    generalize a.eval (.tmp 27) = y27 at hag
    generalize a.eval (.tmp 28) = y28 at hag
    generalize a.eval (.tmp 29) = y29 at hag
    generalize a.eval (.tmp 30) = y30 at hag
    generalize a.eval (.tmp 31) = y31 at hag
    generalize a.eval (.tmp 32) = y32 at hag
    generalize a.eval (.tmp 33) = y33 at hag
    generalize a.eval (.tmp 34) = y34 at hag
    generalize a.eval (.tmp 35) = y35 at hag
    generalize a.eval (.tmp 36) = y36 at hag
    generalize a.eval (.tmp 37) = y37 at hag
    generalize a.eval (.tmp 38) = y38 at hag
    generalize a.eval (.tmp 39) = y39 at hag
    clear h e4 hall hfar
    subst hag
    go_wp2
    go_ret
    exact ⟨rfl, hxe⟩

theorem identNames_calls (k : UInt8) (A : Option Addr) (n c : Nat) (bs : List UInt8) (w : World) (hb : Cells w A (bv bs)) (hn : bs.length = n) (hc : n ≤ c) (hl : n ≤ 140737488351232) (hT : Tab w) :
    Calls Tryd.prog 3 #[.int .u8 k.toNat, .slice A n c] w fun e w' => e = .returned (.bool true) ∧ Ext w w' := by
  by_cases h1 : 4096 < n
  · go_enter Tryd.func3, Tryd.ntmps3
    go_wp2_with (go_at_call 8; refine (ident_alive _ hT).mono ?_; rintro e w1 ⟨rfl, hx1⟩)
    go_ret
    exact ⟨rfl, hx1⟩
  have hnl : n ≤ 1048576 := by omega
  have hof := fun w' h hT' => idof_calls k A n c bs w' h hn hc hnl hT'
  have hrof := fun w' => rof_calls k bs w' (by rw [hn]; exact hnl)
  have heq := fun w' => id_equal (idPad (idName k bs)) (idPad (idName k bs)) (idPad_len33 k bs) (idPad_len33 k bs) w'
  rw [beq_self_eq_true] at heq
  unfold idv at hof hrof
  have e1 := u8_eq_one (k := k)
  have e2 := u8_eq_two (k := k)
  by_cases h2 : k = 1
  · rw [decide_eq_true h2] at e1
    exact names_one k A n c bs _ w hb hc hT h1 (Lib.hid hn) (idPad_len33 k bs) hof hrof heq e1
  rw [decide_eq_false h2] at e1
  by_cases h3 : k = 2
  · rw [decide_eq_true h3] at e2
    exact names_two k A n c bs _ w hb hc hT h1 (Lib.hid hn) (idPad_len33 k bs) hof hrof heq e1 e2
  rw [decide_eq_false h3] at e2
  exact names_none k A n c bs _ w hb hc hT h1 (Lib.hid hn) (idPad_len33 k bs) hof hrof heq e1 e2 (Lib.hid (by unfold idName; rw [if_neg h2, if_neg h3]; rfl))
end Go.Proofs.YtnccmcnmoccfmaaDoor
