/- IdentBack: a name that can be is parsed from its text; a text that is parsed is its name's: the walk of the law. Printed by wip/mkidentback.py. -/
import Derived.Test.YtnccmcnmoccfmaaDoorIdentLaw
import Derived.Test.YtnccmcnmoccfmaaDoorRegText
import Derived.Test.YtnccmcnmoccfmaaDoorLedgerW
namespace Go.Proofs.YtnccmcnmoccfmaaDoor
open Go.RowKit
set_option linter.unusedVariables false

set_option maxRecDepth 50000 in
set_option maxHeartbeats 4000000 in
theorem back_tt (X Y Z : Array Value) (T S : ByteArray) (L : Nat) (w : World) (hT : Tab w) (hpX : X.size = 33) (hpY : Y.size = 33) (hpZ : Z.size = 33) (hY1 : ∀ v ∈ Y.toList, v.oneCell' = true) (hZ1 : ∀ v ∈ Z.toList, v.oneCell' = true) (hS : S.size = L) (hL : ¬ 1024 < L)
    (htx : ∀ w', Calls Tryd.prog 13 #[.agg X] w' fun e w'' => e = .returned (.string T) ∧ Ext w' w'')
    (hp1 : ∀ w', Calls Tryd.prog 15 #[.string T] w' fun e w'' => e = .returned (.tuple #[.agg Y, .bool true]) ∧ Ext w' w'')
    (hgd : ∀ w', Calls Tryd.prog 14 #[.agg X] w' fun e w'' => e = .returned (.bool true) ∧ Ext w' w'')
    (hp2 : ∀ w', Calls Tryd.prog 15 #[.string S] w' fun e w'' => e = .returned (.tuple #[.agg Z, .bool true]) ∧ Ext w' w'')
    (heq : ∀ w', (Op.equalIn 10000 26 (.agg Y) (.agg X)).run Tryd.prog w' = .ok true w')
    (htz : ∀ w', Calls Tryd.prog 13 #[.agg Z] w' fun e w'' => e = .returned (.string S) ∧ Ext w' w'')
    (hgz : ∀ w', Calls Tryd.prog 14 #[.agg Z] w' fun e w'' => e = .returned (.bool true) ∧ Ext w' w'')
    : Calls Tryd.prog 7 #[.agg X, .string S] w fun e w' => e = .returned (.bool true) ∧ Ext w w' := by
  have hself : (S.toList == S.toList) = true := by simp
  go_enter Tryd.func7, Tryd.ntmps7
  have hB0 : Blk (w.alloc (.cells X 26)) w.heap.size 26 X := Blk.new w _ _
  have hx0 : Ext w (w.alloc (.cells X 26)) := (Ext.refl _).alloc _
  go_upto_region 9 with (first
    | (refine wpList_skip rfl ?_ ?_; focus (simp [Region.wanted, yielded]; done); simp only [Act.put, List.setIfInBounds_toArray, List.set_cons_zero, List.set_cons_succ])
    | (go_at_call 8; (with_reducible refine (ident_alive _ (hT.ext hx0)).mono ?_); rintro e w1 ⟨rfl, hx1⟩; have hx01 := hx0.trans hx1; have hB1 := hB0.ext hx1)
    | (refine wpList_load_w 26 (.tmp 2) rfl w.heap.size rfl rfl _ X _ (by first | exact hB5 | exact hB4 | exact hB1) Tryd.underlying26 rfl (by rw [hpX]; kernel_rfl) ?_)
    | (refine wpList_load_w 26 (.tmp 5) rfl w3.heap.size rfl rfl _ Y _ hY5 Tryd.underlying26 rfl (by rw [hpY]; kernel_rfl) ?_)
    | (refine wpList_load_w 26 (.tmp 7) rfl w6.heap.size rfl rfl _ Z _ (by first | exact hZ8 | exact hZ7) Tryd.underlying26 rfl (by rw [hpZ]; kernel_rfl) ?_)
    | (go_at_call 13; first
      | ((with_reducible refine (htx _).mono ?_); rintro e w2 ⟨rfl, hx2⟩; have hx02 := hx01.trans hx2; have hB2 := hB1.ext hx2)
      | ((with_reducible refine (htz _).mono ?_); rintro e w8 ⟨rfl, hx8⟩; have hx08 := hx07.trans hx8; have hZ8 := hZ7.ext hx8))
    | (go_at_call 15; first
      | ((with_reducible refine (hp1 _).mono ?_); rintro e w3 ⟨rfl, hx3⟩; have hx03 := hx02.trans hx3; have hB3 := hB2.ext hx3)
      | ((with_reducible refine (hp2 _).mono ?_); rintro e w6 ⟨rfl, hx6⟩; have hx06 := hx05.trans hx6))
    | (refine wpList_store_blk rfl 26 (.tmp 5) (.tmp 18) rfl rfl w3.heap.size Y rfl rfl _ _ (Blk.new_at rfl _ _) (by rw [hpY]; rfl) (by kernel_rfl) hY1 ?_; intro w4 hY4 hg4; have hx34 : Ext w3 w4 := ((Ext.refl _).alloc _).grown_ hg4 (by simp); have hx04 := hx03.trans hx34; have hB4 := hB3.ext hx34; clear hg4)
    | (go_at_call 14; first
      | ((with_reducible refine (hgd _).mono ?_); rintro e w5 ⟨rfl, hx5⟩; have hx05 := hx04.trans hx5; have hB5 := hB4.ext hx5; have hY5 := hY4.ext hx5)
      | ((with_reducible refine (hgz _).mono ?_); rintro e w9 ⟨rfl, hx9⟩; have hx09 := hx08.trans hx9))
    | (refine wpList_store_blk rfl 26 (.tmp 7) (.tmp 35) rfl rfl w6.heap.size Z rfl rfl _ _ (Blk.new_at rfl _ _) (by rw [hpZ]; rfl) (by kernel_rfl) hZ1 ?_; intro w7 hZ7 hg7; have hx67 : Ext w6 w7 := ((Ext.refl _).alloc _).grown_ hg7 (by simp); have hx07 := hx06.trans hx67; clear hg7))
  refine wp_region_text (RInv [37, 38, 39, 40, 41, 42, 43, 44, 45, 46, 47, 48, 4] _ w7 [(0, 37, .bool true), (1, 38, .bool false), (2, 39, .bool false), (3, 40, .agg Z), (4, 41, .string S), (5, 42, .string S), (6, 43, .bool true), (7, 44, .bool true), (8, 45, .agg Z), (9, 46, .bool true), (10, 47, .bool true), (11, 48, .bool true), (12, 4, .bool true)] []) (by kernel_rfl) RInv.start ?_ ?_
  · refine ⟨?o0, ?o1, ?o2, ?o3, ?o4, ?o5, ?o6, ?o7, ?o8, ?o9, ?o10, ?o11, ?o12, trivial⟩
    case o0 =>
      intro f a u h hfi hp hq
      have q8 : a.tmps[8]?.getD undef = .bool true := h.agree.att (by decide)
      exact h.yieldW rfl (wanted_none rfl) 37 rfl (by change 37 < 49; decide) rfl _ rfl (by go_simp)
    case o1 =>
      intro f a u h hfi hp hq
      have q37 := h.att 0 rfl (pre_of hp 0 rfl)
      exact h.yieldW rfl (wanted_none rfl) 38 rfl (by change 38 < 49; decide) rfl _ rfl (by go_simp)
    case o2 =>
      intro f a u h hfi hp hq
      have q38 := h.att 1 rfl (pre_of hp 1 rfl)
      exact h.yieldW rfl (wanted_none rfl) 39 rfl (by change 39 < 49; decide) rfl _ rfl (by go_simp)
    case o3 =>
      intro f a u h hfi hp hq
      exact h.yieldW rfl (wanted_yes (g := 2) (d' := 39) rfl rfl (h.at_ 2 rfl (pre_of hp 2 rfl))) 40 rfl (by change 40 < 49; decide) rfl _ rfl (run_of_sem rfl (by rw [show a.eval (.tmp 7) = .pointer (some ⟨w6.heap.size, 0, none⟩) from h.agree.eval (by decide)]; exact run_load_blk (hZ7.ext h.ext) Tryd.underlying26 rfl (by rw [hpZ]; kernel_rfl)))
    case o4 =>
      intro f a u h hfi hp hq
      exact h.callW rfl (wanted_yes (g := 2) (d' := 39) rfl rfl (h.at_ 2 rfl (pre_of hp 2 rfl))) 41 rfl (by change 41 < 49; decide) rfl _ rfl 13 #[.tmp 40] #[26] _ rfl (by kernel_rfl) (by rw [arr1, h.at_ 3 rfl (pre_of hp 3 rfl)]) (htz u)
    case o5 =>
      intro f a u h hfi hp hq
      have q1 : a.tmps[1]?.getD undef = .string S := h.agree.att (by decide)
      exact h.yieldW rfl (wanted_yes (g := 2) (d' := 39) rfl rfl (h.at_ 2 rfl (pre_of hp 2 rfl))) 42 rfl (by change 42 < 49; decide) rfl _ rfl (by go_simp)
    case o6 =>
      intro f a u h hfi hp hq
      have q41 := h.att 4 rfl (pre_of hp 4 rfl)
      have q42 := h.att 5 rfl (pre_of hp 5 rfl)
      have z := hself
      exact h.yieldW rfl (wanted_yes (g := 2) (d' := 39) rfl rfl (h.at_ 2 rfl (pre_of hp 2 rfl))) 43 rfl (by change 43 < 49; decide) rfl _ rfl (by go_simp)
    case o7 =>
      intro f a u h hfi hp hq
      have q43 := h.att 6 rfl (pre_of hp 6 rfl)
      exact h.yieldW rfl (wanted_yes (g := 2) (d' := 39) rfl rfl (h.at_ 2 rfl (pre_of hp 2 rfl))) 44 rfl (by change 44 < 49; decide) rfl _ rfl (by go_simp)
    case o8 =>
      intro f a u h hfi hp hq
      exact h.yieldW rfl (wanted_yes (g := 7) (d' := 44) rfl rfl (h.at_ 7 rfl (pre_of hp 7 rfl))) 45 rfl (by change 45 < 49; decide) rfl _ rfl (run_of_sem rfl (by rw [show a.eval (.tmp 7) = .pointer (some ⟨w6.heap.size, 0, none⟩) from h.agree.eval (by decide)]; exact run_load_blk (hZ7.ext h.ext) Tryd.underlying26 rfl (by rw [hpZ]; kernel_rfl)))
    case o9 =>
      intro f a u h hfi hp hq
      exact h.callW rfl (wanted_yes (g := 7) (d' := 44) rfl rfl (h.at_ 7 rfl (pre_of hp 7 rfl))) 46 rfl (by change 46 < 49; decide) rfl _ rfl 14 #[.tmp 45] #[26] _ rfl (by kernel_rfl) (by rw [arr1, h.at_ 8 rfl (pre_of hp 8 rfl)]) (hgz u)
    case o10 =>
      intro f a u h hfi hp hq
      have q44 := h.att 7 rfl (pre_of hp 7 rfl)
      have q46 := h.att 9 rfl (pre_of hp 9 rfl)
      exact h.yieldW rfl (wanted_yes (g := 2) (d' := 39) rfl rfl (h.at_ 2 rfl (pre_of hp 2 rfl))) 47 rfl (by change 47 < 49; decide) rfl _ rfl (by go_simp)
    case o11 =>
      intro f a u h hfi hp hq
      have q39 := h.att 2 rfl (pre_of hp 2 rfl)
      have q47 := h.att 10 rfl (pre_of hp 10 rfl)
      exact h.yieldW rfl (wanted_none rfl) 48 rfl (by change 48 < 49; decide) rfl _ rfl (by go_simp)
    case o12 =>
      intro f a u h hfi hp hq
      have q48 := h.att 11 rfl (pre_of hp 11 rfl)
      exact h.yieldW rfl (wanted_none rfl) 4 rfl (by change 4 < 49; decide) rfl _ rfl (by go_simp)
  · intro f a u h hall hfar
    have hag := h.agree.out
    have e4 := h.at_ 12 rfl (hall 12 (by decide))
    have hxe := hx07.trans h.ext
    simp only [List.foldl_cons, List.foldl_nil, Act.put, List.setIfInBounds_toArray, List.set_cons_zero, List.set_cons_succ, e4] at hag
    generalize a.eval (.tmp 37) = y37 at hag
    generalize a.eval (.tmp 38) = y38 at hag
    generalize a.eval (.tmp 39) = y39 at hag
    generalize a.eval (.tmp 40) = y40 at hag
    generalize a.eval (.tmp 41) = y41 at hag
    generalize a.eval (.tmp 42) = y42 at hag
    generalize a.eval (.tmp 43) = y43 at hag
    generalize a.eval (.tmp 44) = y44 at hag
    generalize a.eval (.tmp 45) = y45 at hag
    generalize a.eval (.tmp 46) = y46 at hag
    generalize a.eval (.tmp 47) = y47 at hag
    generalize a.eval (.tmp 48) = y48 at hag
    clear h hall hfar e4
    subst hag
    go_wp2
    go_ret
    exact ⟨rfl, hxe⟩

set_option maxRecDepth 50000 in
set_option maxHeartbeats 4000000 in
theorem back_tf (X Y Z : Array Value) (T S : ByteArray) (L : Nat) (w : World) (hT : Tab w) (hpX : X.size = 33) (hpY : Y.size = 33) (hpZ : Z.size = 33) (hY1 : ∀ v ∈ Y.toList, v.oneCell' = true) (hZ1 : ∀ v ∈ Z.toList, v.oneCell' = true) (hS : S.size = L) (hL : ¬ 1024 < L)
    (htx : ∀ w', Calls Tryd.prog 13 #[.agg X] w' fun e w'' => e = .returned (.string T) ∧ Ext w' w'')
    (hp1 : ∀ w', Calls Tryd.prog 15 #[.string T] w' fun e w'' => e = .returned (.tuple #[.agg Y, .bool true]) ∧ Ext w' w'')
    (hgd : ∀ w', Calls Tryd.prog 14 #[.agg X] w' fun e w'' => e = .returned (.bool true) ∧ Ext w' w'')
    (hp2 : ∀ w', Calls Tryd.prog 15 #[.string S] w' fun e w'' => e = .returned (.tuple #[.agg Z, .bool false]) ∧ Ext w' w'')
    (heq : ∀ w', (Op.equalIn 10000 26 (.agg Y) (.agg X)).run Tryd.prog w' = .ok true w')
    : Calls Tryd.prog 7 #[.agg X, .string S] w fun e w' => e = .returned (.bool true) ∧ Ext w w' := by
  go_enter Tryd.func7, Tryd.ntmps7
  have hB0 : Blk (w.alloc (.cells X 26)) w.heap.size 26 X := Blk.new w _ _
  have hx0 : Ext w (w.alloc (.cells X 26)) := (Ext.refl _).alloc _
  go_upto_region 9 with (first
    | (refine wpList_skip rfl ?_ ?_; focus (simp [Region.wanted, yielded]; done); simp only [Act.put, List.setIfInBounds_toArray, List.set_cons_zero, List.set_cons_succ])
    | (go_at_call 8; (with_reducible refine (ident_alive _ (hT.ext hx0)).mono ?_); rintro e w1 ⟨rfl, hx1⟩; have hx01 := hx0.trans hx1; have hB1 := hB0.ext hx1)
    | (refine wpList_load_w 26 (.tmp 2) rfl w.heap.size rfl rfl _ X _ (by first | exact hB5 | exact hB4 | exact hB1) Tryd.underlying26 rfl (by rw [hpX]; kernel_rfl) ?_)
    | (refine wpList_load_w 26 (.tmp 5) rfl w3.heap.size rfl rfl _ Y _ hY5 Tryd.underlying26 rfl (by rw [hpY]; kernel_rfl) ?_)
    | (refine wpList_load_w 26 (.tmp 7) rfl w6.heap.size rfl rfl _ Z _ (by first | exact hZ8 | exact hZ7) Tryd.underlying26 rfl (by rw [hpZ]; kernel_rfl) ?_)
    | (go_at_call 13; first
      | ((with_reducible refine (htx _).mono ?_); rintro e w2 ⟨rfl, hx2⟩; have hx02 := hx01.trans hx2; have hB2 := hB1.ext hx2)
      | ((with_reducible refine (htz _).mono ?_); rintro e w8 ⟨rfl, hx8⟩; have hx08 := hx07.trans hx8; have hZ8 := hZ7.ext hx8))
    | (go_at_call 15; first
      | ((with_reducible refine (hp1 _).mono ?_); rintro e w3 ⟨rfl, hx3⟩; have hx03 := hx02.trans hx3; have hB3 := hB2.ext hx3)
      | ((with_reducible refine (hp2 _).mono ?_); rintro e w6 ⟨rfl, hx6⟩; have hx06 := hx05.trans hx6))
    | (refine wpList_store_blk rfl 26 (.tmp 5) (.tmp 18) rfl rfl w3.heap.size Y rfl rfl _ _ (Blk.new_at rfl _ _) (by rw [hpY]; rfl) (by kernel_rfl) hY1 ?_; intro w4 hY4 hg4; have hx34 : Ext w3 w4 := ((Ext.refl _).alloc _).grown_ hg4 (by simp); have hx04 := hx03.trans hx34; have hB4 := hB3.ext hx34; clear hg4)
    | (go_at_call 14; first
      | ((with_reducible refine (hgd _).mono ?_); rintro e w5 ⟨rfl, hx5⟩; have hx05 := hx04.trans hx5; have hB5 := hB4.ext hx5; have hY5 := hY4.ext hx5)
      | ((with_reducible refine (hgz _).mono ?_); rintro e w9 ⟨rfl, hx9⟩; have hx09 := hx08.trans hx9))
    | (refine wpList_store_blk rfl 26 (.tmp 7) (.tmp 35) rfl rfl w6.heap.size Z rfl rfl _ _ (Blk.new_at rfl _ _) (by rw [hpZ]; rfl) (by kernel_rfl) hZ1 ?_; intro w7 hZ7 hg7; have hx67 : Ext w6 w7 := ((Ext.refl _).alloc _).grown_ hg7 (by simp); have hx07 := hx06.trans hx67; clear hg7))
  refine wp_region_text (RInv [37, 38, 39, 40, 41, 42, 43, 44, 45, 46, 47, 48, 4] _ w7 [(0, 37, .bool false), (1, 38, .bool true), (2, 39, .bool true), (3, 40, undef), (4, 41, undef), (5, 42, undef), (6, 43, undef), (7, 44, undef), (8, 45, undef), (9, 46, undef), (10, 47, undef), (11, 48, .bool true), (12, 4, .bool true)] []) (by kernel_rfl) RInv.start ?_ ?_
  · refine ⟨?o0, ?o1, ?o2, ?o3, ?o4, ?o5, ?o6, ?o7, ?o8, ?o9, ?o10, ?o11, ?o12, trivial⟩
    case o0 =>
      intro f a u h hfi hp hq
      have q8 : a.tmps[8]?.getD undef = .bool false := h.agree.att (by decide)
      exact h.yieldW rfl (wanted_none rfl) 37 rfl (by change 37 < 49; decide) rfl _ rfl (by go_simp)
    case o1 =>
      intro f a u h hfi hp hq
      have q37 := h.att 0 rfl (pre_of hp 0 rfl)
      exact h.yieldW rfl (wanted_none rfl) 38 rfl (by change 38 < 49; decide) rfl _ rfl (by go_simp)
    case o2 =>
      intro f a u h hfi hp hq
      have q38 := h.att 1 rfl (pre_of hp 1 rfl)
      exact h.yieldW rfl (wanted_none rfl) 39 rfl (by change 39 < 49; decide) rfl _ rfl (by go_simp)
    case o3 =>
      intro f a u h hfi hp hq
      exact h.skip rfl (wanted_not (g := 2) (d' := 39) rfl rfl (h.at_ 2 rfl (pre_of hp 2 rfl)) rfl) 40 rfl (by change 40 < 49; decide) rfl rfl
    case o4 =>
      intro f a u h hfi hp hq
      exact h.skip rfl (wanted_not (g := 2) (d' := 39) rfl rfl (h.at_ 2 rfl (pre_of hp 2 rfl)) rfl) 41 rfl (by change 41 < 49; decide) rfl rfl
    case o5 =>
      intro f a u h hfi hp hq
      exact h.skip rfl (wanted_not (g := 2) (d' := 39) rfl rfl (h.at_ 2 rfl (pre_of hp 2 rfl)) rfl) 42 rfl (by change 42 < 49; decide) rfl rfl
    case o6 =>
      intro f a u h hfi hp hq
      exact h.skip rfl (wanted_not (g := 2) (d' := 39) rfl rfl (h.at_ 2 rfl (pre_of hp 2 rfl)) rfl) 43 rfl (by change 43 < 49; decide) rfl rfl
    case o7 =>
      intro f a u h hfi hp hq
      exact h.skip rfl (wanted_not (g := 2) (d' := 39) rfl rfl (h.at_ 2 rfl (pre_of hp 2 rfl)) rfl) 44 rfl (by change 44 < 49; decide) rfl rfl
    case o8 =>
      intro f a u h hfi hp hq
      exact h.skip rfl (wanted_undef (g := 7) (d' := 44) rfl rfl (h.at_ 7 rfl (pre_of hp 7 rfl))) 45 rfl (by change 45 < 49; decide) rfl rfl
    case o9 =>
      intro f a u h hfi hp hq
      exact h.skip rfl (wanted_undef (g := 7) (d' := 44) rfl rfl (h.at_ 7 rfl (pre_of hp 7 rfl))) 46 rfl (by change 46 < 49; decide) rfl rfl
    case o10 =>
      intro f a u h hfi hp hq
      exact h.skip rfl (wanted_not (g := 2) (d' := 39) rfl rfl (h.at_ 2 rfl (pre_of hp 2 rfl)) rfl) 47 rfl (by change 47 < 49; decide) rfl rfl
    case o11 =>
      intro f a u h hfi hp hq
      have q39 := h.att 2 rfl (pre_of hp 2 rfl)
      have q47 := h.att 10 rfl (pre_of hp 10 rfl)
      exact h.yieldW rfl (wanted_none rfl) 48 rfl (by change 48 < 49; decide) rfl _ rfl (by go_simp)
    case o12 =>
      intro f a u h hfi hp hq
      have q48 := h.att 11 rfl (pre_of hp 11 rfl)
      exact h.yieldW rfl (wanted_none rfl) 4 rfl (by change 4 < 49; decide) rfl _ rfl (by go_simp)
  · intro f a u h hall hfar
    have hag := h.agree.out
    have e4 := h.at_ 12 rfl (hall 12 (by decide))
    have hxe := hx07.trans h.ext
    simp only [List.foldl_cons, List.foldl_nil, Act.put, List.setIfInBounds_toArray, List.set_cons_zero, List.set_cons_succ, e4] at hag
    generalize a.eval (.tmp 37) = y37 at hag
    generalize a.eval (.tmp 38) = y38 at hag
    generalize a.eval (.tmp 39) = y39 at hag
    generalize a.eval (.tmp 40) = y40 at hag
    generalize a.eval (.tmp 41) = y41 at hag
    generalize a.eval (.tmp 42) = y42 at hag
    generalize a.eval (.tmp 43) = y43 at hag
    generalize a.eval (.tmp 44) = y44 at hag
    generalize a.eval (.tmp 45) = y45 at hag
    generalize a.eval (.tmp 46) = y46 at hag
    generalize a.eval (.tmp 47) = y47 at hag
    generalize a.eval (.tmp 48) = y48 at hag
    clear h hall hfar e4
    subst hag
    go_wp2
    go_ret
    exact ⟨rfl, hxe⟩

set_option maxRecDepth 50000 in
set_option maxHeartbeats 4000000 in
theorem back_ft (X Y Z : Array Value) (T S : ByteArray) (L : Nat) (w : World) (hT : Tab w) (hpX : X.size = 33) (hpY : Y.size = 33) (hpZ : Z.size = 33) (hY1 : ∀ v ∈ Y.toList, v.oneCell' = true) (hZ1 : ∀ v ∈ Z.toList, v.oneCell' = true) (hS : S.size = L) (hL : ¬ 1024 < L)
    (htx : ∀ w', Calls Tryd.prog 13 #[.agg X] w' fun e w'' => e = .returned (.string T) ∧ Ext w' w'')
    (hp1 : ∀ w', Calls Tryd.prog 15 #[.string T] w' fun e w'' => e = .returned (.tuple #[.agg Y, .bool false]) ∧ Ext w' w'')
    (hgd : ∀ w', Calls Tryd.prog 14 #[.agg X] w' fun e w'' => e = .returned (.bool false) ∧ Ext w' w'')
    (hp2 : ∀ w', Calls Tryd.prog 15 #[.string S] w' fun e w'' => e = .returned (.tuple #[.agg Z, .bool true]) ∧ Ext w' w'')
    (htz : ∀ w', Calls Tryd.prog 13 #[.agg Z] w' fun e w'' => e = .returned (.string S) ∧ Ext w' w'')
    (hgz : ∀ w', Calls Tryd.prog 14 #[.agg Z] w' fun e w'' => e = .returned (.bool true) ∧ Ext w' w'')
    : Calls Tryd.prog 7 #[.agg X, .string S] w fun e w' => e = .returned (.bool true) ∧ Ext w w' := by
  have hself : (S.toList == S.toList) = true := by simp
  go_enter Tryd.func7, Tryd.ntmps7
  have hB0 : Blk (w.alloc (.cells X 26)) w.heap.size 26 X := Blk.new w _ _
  have hx0 : Ext w (w.alloc (.cells X 26)) := (Ext.refl _).alloc _
  go_upto_region 9 with (first
    | (refine wpList_skip rfl ?_ ?_; focus (simp [Region.wanted, yielded]; done); simp only [Act.put, List.setIfInBounds_toArray, List.set_cons_zero, List.set_cons_succ])
    | (go_at_call 8; (with_reducible refine (ident_alive _ (hT.ext hx0)).mono ?_); rintro e w1 ⟨rfl, hx1⟩; have hx01 := hx0.trans hx1; have hB1 := hB0.ext hx1)
    | (refine wpList_load_w 26 (.tmp 2) rfl w.heap.size rfl rfl _ X _ (by first | exact hB5 | exact hB4 | exact hB1) Tryd.underlying26 rfl (by rw [hpX]; kernel_rfl) ?_)
    | (refine wpList_load_w 26 (.tmp 5) rfl w3.heap.size rfl rfl _ Y _ hY5 Tryd.underlying26 rfl (by rw [hpY]; kernel_rfl) ?_)
    | (refine wpList_load_w 26 (.tmp 7) rfl w6.heap.size rfl rfl _ Z _ (by first | exact hZ8 | exact hZ7) Tryd.underlying26 rfl (by rw [hpZ]; kernel_rfl) ?_)
    | (go_at_call 13; first
      | ((with_reducible refine (htx _).mono ?_); rintro e w2 ⟨rfl, hx2⟩; have hx02 := hx01.trans hx2; have hB2 := hB1.ext hx2)
      | ((with_reducible refine (htz _).mono ?_); rintro e w8 ⟨rfl, hx8⟩; have hx08 := hx07.trans hx8; have hZ8 := hZ7.ext hx8))
    | (go_at_call 15; first
      | ((with_reducible refine (hp1 _).mono ?_); rintro e w3 ⟨rfl, hx3⟩; have hx03 := hx02.trans hx3; have hB3 := hB2.ext hx3)
      | ((with_reducible refine (hp2 _).mono ?_); rintro e w6 ⟨rfl, hx6⟩; have hx06 := hx05.trans hx6))
    | (refine wpList_store_blk rfl 26 (.tmp 5) (.tmp 18) rfl rfl w3.heap.size Y rfl rfl _ _ (Blk.new_at rfl _ _) (by rw [hpY]; rfl) (by kernel_rfl) hY1 ?_; intro w4 hY4 hg4; have hx34 : Ext w3 w4 := ((Ext.refl _).alloc _).grown_ hg4 (by simp); have hx04 := hx03.trans hx34; have hB4 := hB3.ext hx34; clear hg4)
    | (go_at_call 14; first
      | ((with_reducible refine (hgd _).mono ?_); rintro e w5 ⟨rfl, hx5⟩; have hx05 := hx04.trans hx5; have hB5 := hB4.ext hx5; have hY5 := hY4.ext hx5)
      | ((with_reducible refine (hgz _).mono ?_); rintro e w9 ⟨rfl, hx9⟩; have hx09 := hx08.trans hx9))
    | (refine wpList_store_blk rfl 26 (.tmp 7) (.tmp 35) rfl rfl w6.heap.size Z rfl rfl _ _ (Blk.new_at rfl _ _) (by rw [hpZ]; rfl) (by kernel_rfl) hZ1 ?_; intro w7 hZ7 hg7; have hx67 : Ext w6 w7 := ((Ext.refl _).alloc _).grown_ hg7 (by simp); have hx07 := hx06.trans hx67; clear hg7))
  refine wp_region_text (RInv [37, 38, 39, 40, 41, 42, 43, 44, 45, 46, 47, 48, 4] _ w7 [(0, 37, .bool true), (1, 38, .bool false), (2, 39, .bool false), (3, 40, .agg Z), (4, 41, .string S), (5, 42, .string S), (6, 43, .bool true), (7, 44, .bool true), (8, 45, .agg Z), (9, 46, .bool true), (10, 47, .bool true), (11, 48, .bool true), (12, 4, .bool true)] []) (by kernel_rfl) RInv.start ?_ ?_
  · refine ⟨?o0, ?o1, ?o2, ?o3, ?o4, ?o5, ?o6, ?o7, ?o8, ?o9, ?o10, ?o11, ?o12, trivial⟩
    case o0 =>
      intro f a u h hfi hp hq
      have q8 : a.tmps[8]?.getD undef = .bool true := h.agree.att (by decide)
      exact h.yieldW rfl (wanted_none rfl) 37 rfl (by change 37 < 49; decide) rfl _ rfl (by go_simp)
    case o1 =>
      intro f a u h hfi hp hq
      have q37 := h.att 0 rfl (pre_of hp 0 rfl)
      exact h.yieldW rfl (wanted_none rfl) 38 rfl (by change 38 < 49; decide) rfl _ rfl (by go_simp)
    case o2 =>
      intro f a u h hfi hp hq
      have q38 := h.att 1 rfl (pre_of hp 1 rfl)
      exact h.yieldW rfl (wanted_none rfl) 39 rfl (by change 39 < 49; decide) rfl _ rfl (by go_simp)
    case o3 =>
      intro f a u h hfi hp hq
      exact h.yieldW rfl (wanted_yes (g := 2) (d' := 39) rfl rfl (h.at_ 2 rfl (pre_of hp 2 rfl))) 40 rfl (by change 40 < 49; decide) rfl _ rfl (run_of_sem rfl (by rw [show a.eval (.tmp 7) = .pointer (some ⟨w6.heap.size, 0, none⟩) from h.agree.eval (by decide)]; exact run_load_blk (hZ7.ext h.ext) Tryd.underlying26 rfl (by rw [hpZ]; kernel_rfl)))
    case o4 =>
      intro f a u h hfi hp hq
      exact h.callW rfl (wanted_yes (g := 2) (d' := 39) rfl rfl (h.at_ 2 rfl (pre_of hp 2 rfl))) 41 rfl (by change 41 < 49; decide) rfl _ rfl 13 #[.tmp 40] #[26] _ rfl (by kernel_rfl) (by rw [arr1, h.at_ 3 rfl (pre_of hp 3 rfl)]) (htz u)
    case o5 =>
      intro f a u h hfi hp hq
      have q1 : a.tmps[1]?.getD undef = .string S := h.agree.att (by decide)
      exact h.yieldW rfl (wanted_yes (g := 2) (d' := 39) rfl rfl (h.at_ 2 rfl (pre_of hp 2 rfl))) 42 rfl (by change 42 < 49; decide) rfl _ rfl (by go_simp)
    case o6 =>
      intro f a u h hfi hp hq
      have q41 := h.att 4 rfl (pre_of hp 4 rfl)
      have q42 := h.att 5 rfl (pre_of hp 5 rfl)
      have z := hself
      exact h.yieldW rfl (wanted_yes (g := 2) (d' := 39) rfl rfl (h.at_ 2 rfl (pre_of hp 2 rfl))) 43 rfl (by change 43 < 49; decide) rfl _ rfl (by go_simp)
    case o7 =>
      intro f a u h hfi hp hq
      have q43 := h.att 6 rfl (pre_of hp 6 rfl)
      exact h.yieldW rfl (wanted_yes (g := 2) (d' := 39) rfl rfl (h.at_ 2 rfl (pre_of hp 2 rfl))) 44 rfl (by change 44 < 49; decide) rfl _ rfl (by go_simp)
    case o8 =>
      intro f a u h hfi hp hq
      exact h.yieldW rfl (wanted_yes (g := 7) (d' := 44) rfl rfl (h.at_ 7 rfl (pre_of hp 7 rfl))) 45 rfl (by change 45 < 49; decide) rfl _ rfl (run_of_sem rfl (by rw [show a.eval (.tmp 7) = .pointer (some ⟨w6.heap.size, 0, none⟩) from h.agree.eval (by decide)]; exact run_load_blk (hZ7.ext h.ext) Tryd.underlying26 rfl (by rw [hpZ]; kernel_rfl)))
    case o9 =>
      intro f a u h hfi hp hq
      exact h.callW rfl (wanted_yes (g := 7) (d' := 44) rfl rfl (h.at_ 7 rfl (pre_of hp 7 rfl))) 46 rfl (by change 46 < 49; decide) rfl _ rfl 14 #[.tmp 45] #[26] _ rfl (by kernel_rfl) (by rw [arr1, h.at_ 8 rfl (pre_of hp 8 rfl)]) (hgz u)
    case o10 =>
      intro f a u h hfi hp hq
      have q44 := h.att 7 rfl (pre_of hp 7 rfl)
      have q46 := h.att 9 rfl (pre_of hp 9 rfl)
      exact h.yieldW rfl (wanted_yes (g := 2) (d' := 39) rfl rfl (h.at_ 2 rfl (pre_of hp 2 rfl))) 47 rfl (by change 47 < 49; decide) rfl _ rfl (by go_simp)
    case o11 =>
      intro f a u h hfi hp hq
      have q39 := h.att 2 rfl (pre_of hp 2 rfl)
      have q47 := h.att 10 rfl (pre_of hp 10 rfl)
      exact h.yieldW rfl (wanted_none rfl) 48 rfl (by change 48 < 49; decide) rfl _ rfl (by go_simp)
    case o12 =>
      intro f a u h hfi hp hq
      have q48 := h.att 11 rfl (pre_of hp 11 rfl)
      exact h.yieldW rfl (wanted_none rfl) 4 rfl (by change 4 < 49; decide) rfl _ rfl (by go_simp)
  · intro f a u h hall hfar
    have hag := h.agree.out
    have e4 := h.at_ 12 rfl (hall 12 (by decide))
    have hxe := hx07.trans h.ext
    simp only [List.foldl_cons, List.foldl_nil, Act.put, List.setIfInBounds_toArray, List.set_cons_zero, List.set_cons_succ, e4] at hag
    generalize a.eval (.tmp 37) = y37 at hag
    generalize a.eval (.tmp 38) = y38 at hag
    generalize a.eval (.tmp 39) = y39 at hag
    generalize a.eval (.tmp 40) = y40 at hag
    generalize a.eval (.tmp 41) = y41 at hag
    generalize a.eval (.tmp 42) = y42 at hag
    generalize a.eval (.tmp 43) = y43 at hag
    generalize a.eval (.tmp 44) = y44 at hag
    generalize a.eval (.tmp 45) = y45 at hag
    generalize a.eval (.tmp 46) = y46 at hag
    generalize a.eval (.tmp 47) = y47 at hag
    generalize a.eval (.tmp 48) = y48 at hag
    clear h hall hfar e4
    subst hag
    go_wp2
    go_ret
    exact ⟨rfl, hxe⟩

set_option maxRecDepth 50000 in
set_option maxHeartbeats 4000000 in
theorem back_ff (X Y Z : Array Value) (T S : ByteArray) (L : Nat) (w : World) (hT : Tab w) (hpX : X.size = 33) (hpY : Y.size = 33) (hpZ : Z.size = 33) (hY1 : ∀ v ∈ Y.toList, v.oneCell' = true) (hZ1 : ∀ v ∈ Z.toList, v.oneCell' = true) (hS : S.size = L) (hL : ¬ 1024 < L)
    (htx : ∀ w', Calls Tryd.prog 13 #[.agg X] w' fun e w'' => e = .returned (.string T) ∧ Ext w' w'')
    (hp1 : ∀ w', Calls Tryd.prog 15 #[.string T] w' fun e w'' => e = .returned (.tuple #[.agg Y, .bool false]) ∧ Ext w' w'')
    (hgd : ∀ w', Calls Tryd.prog 14 #[.agg X] w' fun e w'' => e = .returned (.bool false) ∧ Ext w' w'')
    (hp2 : ∀ w', Calls Tryd.prog 15 #[.string S] w' fun e w'' => e = .returned (.tuple #[.agg Z, .bool false]) ∧ Ext w' w'')
    : Calls Tryd.prog 7 #[.agg X, .string S] w fun e w' => e = .returned (.bool true) ∧ Ext w w' := by
  go_enter Tryd.func7, Tryd.ntmps7
  have hB0 : Blk (w.alloc (.cells X 26)) w.heap.size 26 X := Blk.new w _ _
  have hx0 : Ext w (w.alloc (.cells X 26)) := (Ext.refl _).alloc _
  go_upto_region 9 with (first
    | (refine wpList_skip rfl ?_ ?_; focus (simp [Region.wanted, yielded]; done); simp only [Act.put, List.setIfInBounds_toArray, List.set_cons_zero, List.set_cons_succ])
    | (go_at_call 8; (with_reducible refine (ident_alive _ (hT.ext hx0)).mono ?_); rintro e w1 ⟨rfl, hx1⟩; have hx01 := hx0.trans hx1; have hB1 := hB0.ext hx1)
    | (refine wpList_load_w 26 (.tmp 2) rfl w.heap.size rfl rfl _ X _ (by first | exact hB5 | exact hB4 | exact hB1) Tryd.underlying26 rfl (by rw [hpX]; kernel_rfl) ?_)
    | (refine wpList_load_w 26 (.tmp 5) rfl w3.heap.size rfl rfl _ Y _ hY5 Tryd.underlying26 rfl (by rw [hpY]; kernel_rfl) ?_)
    | (refine wpList_load_w 26 (.tmp 7) rfl w6.heap.size rfl rfl _ Z _ (by first | exact hZ8 | exact hZ7) Tryd.underlying26 rfl (by rw [hpZ]; kernel_rfl) ?_)
    | (go_at_call 13; first
      | ((with_reducible refine (htx _).mono ?_); rintro e w2 ⟨rfl, hx2⟩; have hx02 := hx01.trans hx2; have hB2 := hB1.ext hx2)
      | ((with_reducible refine (htz _).mono ?_); rintro e w8 ⟨rfl, hx8⟩; have hx08 := hx07.trans hx8; have hZ8 := hZ7.ext hx8))
    | (go_at_call 15; first
      | ((with_reducible refine (hp1 _).mono ?_); rintro e w3 ⟨rfl, hx3⟩; have hx03 := hx02.trans hx3; have hB3 := hB2.ext hx3)
      | ((with_reducible refine (hp2 _).mono ?_); rintro e w6 ⟨rfl, hx6⟩; have hx06 := hx05.trans hx6))
    | (refine wpList_store_blk rfl 26 (.tmp 5) (.tmp 18) rfl rfl w3.heap.size Y rfl rfl _ _ (Blk.new_at rfl _ _) (by rw [hpY]; rfl) (by kernel_rfl) hY1 ?_; intro w4 hY4 hg4; have hx34 : Ext w3 w4 := ((Ext.refl _).alloc _).grown_ hg4 (by simp); have hx04 := hx03.trans hx34; have hB4 := hB3.ext hx34; clear hg4)
    | (go_at_call 14; first
      | ((with_reducible refine (hgd _).mono ?_); rintro e w5 ⟨rfl, hx5⟩; have hx05 := hx04.trans hx5; have hB5 := hB4.ext hx5; have hY5 := hY4.ext hx5)
      | ((with_reducible refine (hgz _).mono ?_); rintro e w9 ⟨rfl, hx9⟩; have hx09 := hx08.trans hx9))
    | (refine wpList_store_blk rfl 26 (.tmp 7) (.tmp 35) rfl rfl w6.heap.size Z rfl rfl _ _ (Blk.new_at rfl _ _) (by rw [hpZ]; rfl) (by kernel_rfl) hZ1 ?_; intro w7 hZ7 hg7; have hx67 : Ext w6 w7 := ((Ext.refl _).alloc _).grown_ hg7 (by simp); have hx07 := hx06.trans hx67; clear hg7))
  refine wp_region_text (RInv [37, 38, 39, 40, 41, 42, 43, 44, 45, 46, 47, 48, 4] _ w7 [(0, 37, .bool false), (1, 38, .bool true), (2, 39, .bool true), (3, 40, undef), (4, 41, undef), (5, 42, undef), (6, 43, undef), (7, 44, undef), (8, 45, undef), (9, 46, undef), (10, 47, undef), (11, 48, .bool true), (12, 4, .bool true)] []) (by kernel_rfl) RInv.start ?_ ?_
  · refine ⟨?o0, ?o1, ?o2, ?o3, ?o4, ?o5, ?o6, ?o7, ?o8, ?o9, ?o10, ?o11, ?o12, trivial⟩
    case o0 =>
      intro f a u h hfi hp hq
      have q8 : a.tmps[8]?.getD undef = .bool false := h.agree.att (by decide)
      exact h.yieldW rfl (wanted_none rfl) 37 rfl (by change 37 < 49; decide) rfl _ rfl (by go_simp)
    case o1 =>
      intro f a u h hfi hp hq
      have q37 := h.att 0 rfl (pre_of hp 0 rfl)
      exact h.yieldW rfl (wanted_none rfl) 38 rfl (by change 38 < 49; decide) rfl _ rfl (by go_simp)
    case o2 =>
      intro f a u h hfi hp hq
      have q38 := h.att 1 rfl (pre_of hp 1 rfl)
      exact h.yieldW rfl (wanted_none rfl) 39 rfl (by change 39 < 49; decide) rfl _ rfl (by go_simp)
    case o3 =>
      intro f a u h hfi hp hq
      exact h.skip rfl (wanted_not (g := 2) (d' := 39) rfl rfl (h.at_ 2 rfl (pre_of hp 2 rfl)) rfl) 40 rfl (by change 40 < 49; decide) rfl rfl
    case o4 =>
      intro f a u h hfi hp hq
      exact h.skip rfl (wanted_not (g := 2) (d' := 39) rfl rfl (h.at_ 2 rfl (pre_of hp 2 rfl)) rfl) 41 rfl (by change 41 < 49; decide) rfl rfl
    case o5 =>
      intro f a u h hfi hp hq
      exact h.skip rfl (wanted_not (g := 2) (d' := 39) rfl rfl (h.at_ 2 rfl (pre_of hp 2 rfl)) rfl) 42 rfl (by change 42 < 49; decide) rfl rfl
    case o6 =>
      intro f a u h hfi hp hq
      exact h.skip rfl (wanted_not (g := 2) (d' := 39) rfl rfl (h.at_ 2 rfl (pre_of hp 2 rfl)) rfl) 43 rfl (by change 43 < 49; decide) rfl rfl
    case o7 =>
      intro f a u h hfi hp hq
      exact h.skip rfl (wanted_not (g := 2) (d' := 39) rfl rfl (h.at_ 2 rfl (pre_of hp 2 rfl)) rfl) 44 rfl (by change 44 < 49; decide) rfl rfl
    case o8 =>
      intro f a u h hfi hp hq
      exact h.skip rfl (wanted_undef (g := 7) (d' := 44) rfl rfl (h.at_ 7 rfl (pre_of hp 7 rfl))) 45 rfl (by change 45 < 49; decide) rfl rfl
    case o9 =>
      intro f a u h hfi hp hq
      exact h.skip rfl (wanted_undef (g := 7) (d' := 44) rfl rfl (h.at_ 7 rfl (pre_of hp 7 rfl))) 46 rfl (by change 46 < 49; decide) rfl rfl
    case o10 =>
      intro f a u h hfi hp hq
      exact h.skip rfl (wanted_not (g := 2) (d' := 39) rfl rfl (h.at_ 2 rfl (pre_of hp 2 rfl)) rfl) 47 rfl (by change 47 < 49; decide) rfl rfl
    case o11 =>
      intro f a u h hfi hp hq
      have q39 := h.att 2 rfl (pre_of hp 2 rfl)
      have q47 := h.att 10 rfl (pre_of hp 10 rfl)
      exact h.yieldW rfl (wanted_none rfl) 48 rfl (by change 48 < 49; decide) rfl _ rfl (by go_simp)
    case o12 =>
      intro f a u h hfi hp hq
      have q48 := h.att 11 rfl (pre_of hp 11 rfl)
      exact h.yieldW rfl (wanted_none rfl) 4 rfl (by change 4 < 49; decide) rfl _ rfl (by go_simp)
  · intro f a u h hall hfar
    have hag := h.agree.out
    have e4 := h.at_ 12 rfl (hall 12 (by decide))
    have hxe := hx07.trans h.ext
    simp only [List.foldl_cons, List.foldl_nil, Act.put, List.setIfInBounds_toArray, List.set_cons_zero, List.set_cons_succ, e4] at hag
    generalize a.eval (.tmp 37) = y37 at hag
    generalize a.eval (.tmp 38) = y38 at hag
    generalize a.eval (.tmp 39) = y39 at hag
    generalize a.eval (.tmp 40) = y40 at hag
    generalize a.eval (.tmp 41) = y41 at hag
    generalize a.eval (.tmp 42) = y42 at hag
    generalize a.eval (.tmp 43) = y43 at hag
    generalize a.eval (.tmp 44) = y44 at hag
    generalize a.eval (.tmp 45) = y45 at hag
    generalize a.eval (.tmp 46) = y46 at hag
    generalize a.eval (.tmp 47) = y47 at hag
    generalize a.eval (.tmp 48) = y48 at hag
    clear h hall hfar e4
    subst hag
    go_wp2
    go_ret
    exact ⟨rfl, hxe⟩

theorem identBack_calls (b : List UInt8) (s : ByteArray) (w : World) (hb : b.length = 33) (hs : s.size ≤ 140737488351232) (hT : Tab w) :
    Calls Tryd.prog 7 #[.agg (bv b).toArray, .string s] w fun e w' => e = .returned (.bool true) ∧ Ext w w' := by
  obtain ⟨r, hr⟩ : ∃ r, r = s.data.toList := ⟨_, rfl⟩
  have hrs : s = bstr r := by rw [hr, bstr_of]
  have hrl : r.length = s.size := by rw [hr, str_len]
  obtain ⟨L, hL⟩ : ∃ L, s.size = L := ⟨_, rfl⟩
  by_cases hbig : 1024 < L
  · clear hrs hr
    go_enter Tryd.func7, Tryd.ntmps7
    have hx0 : Ext w (w.alloc (.cells (bv b).toArray 26)) := (Ext.refl _).alloc _
    go_wp2_with (go_at_call 8; (with_reducible refine (ident_alive _ (hT.ext hx0)).mono ?_); rintro e w1 ⟨rfl, hx1⟩)
    go_ret
    exact ⟨rfl, hx0.trans hx1⟩
  have hX : (bv b).toArray.size = 33 := by rw [List.size_toArray, bv_len, hb]
  have hTl := idText_len hb
  have htx := fun w' => idtext_calls b w' hb
  have hgd := fun w' => idgood_calls b w' hb
  have hp1 := fun w' => idparse_calls (idText b) w' (by omega)
  have hp2 := fun w' => idparse_calls r w' (by rw [hrl]; exact hs)
  unfold idv at htx hgd hp1 hp2
  rw [← hrs] at hp2
  have hYl : (if idCan (idText b) then idPad (idText b) else idNone).length = 33 := by
    split
    · exact idPad_len hTl
    · rfl
  have hZl : (if idCan r then idPad r else idNone).length = 33 := by
    split
    · rename_i h; exact idPad_len (idCan_le h)
    · rfl
  have sz : ∀ {x : List UInt8}, x.length = 33 → (bv x).toArray.size = 33 := fun h => by rw [List.size_toArray, bv_len, h]
  have hcan : idCan (idText b) = idGood b := by
    cases hg : idGood b with
    | true => exact idText_can hb hg
    | false =>
      have : idText b = [] := by unfold idText; rw [hg]; rfl
      rw [this]; rfl
  cases hg : idGood b with
  | true =>
    rw [hg] at hgd hcan
    rw [hcan, if_pos rfl, idPad_text hb hg] at hp1
    have heq := fun w' => id_equal b b hb hb w'
    rw [beq_self_eq_true] at heq
    cases hc : idCan r with
    | true =>
      rw [hc, if_pos rfl] at hp2
      have htz := fun w' => idtext_calls (idPad r) w' (idPad_len (idCan_le hc))
      have hgz := fun w' => idgood_calls (idPad r) w' (idPad_len (idCan_le hc))
      unfold idv at htz hgz
      rw [(idCan_pad hc).2, ← hrs] at htz
      rw [(idCan_pad hc).1] at hgz
      exact back_tt _ _ _ _ s L w hT hX hX (sz (idPad_len (idCan_le hc))) (bv_cells _) (bv_cells _) hL hbig htx hp1 hgd hp2 heq htz hgz
    | false =>
      rw [hc, if_neg (by decide)] at hp2
      exact back_tf _ _ _ _ s L w hT hX hX (sz rfl) (bv_cells _) (bv_cells _) hL hbig htx hp1 hgd hp2 heq
  | false =>
    rw [hg] at hgd hcan
    rw [hcan, if_neg (by decide)] at hp1
    cases hc : idCan r with
    | true =>
      rw [hc, if_pos rfl] at hp2
      have htz := fun w' => idtext_calls (idPad r) w' (idPad_len (idCan_le hc))
      have hgz := fun w' => idgood_calls (idPad r) w' (idPad_len (idCan_le hc))
      unfold idv at htz hgz
      rw [(idCan_pad hc).2, ← hrs] at htz
      rw [(idCan_pad hc).1] at hgz
      exact back_ft _ _ _ _ s L w hT hX (sz rfl) (sz (idPad_len (idCan_le hc))) (bv_cells _) (bv_cells _) hL hbig htx hp1 hgd hp2 htz hgz
    | false =>
      rw [hc, if_neg (by decide)] at hp2
      exact back_ff _ _ _ _ s L w hT hX (sz rfl) (sz rfl) (bv_cells _) (bv_cells _) hL hbig htx hp1 hgd hp2
end Go.Proofs.YtnccmcnmoccfmaaDoor
