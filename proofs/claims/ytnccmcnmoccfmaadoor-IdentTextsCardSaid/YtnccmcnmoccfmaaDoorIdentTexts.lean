/- IdentTexts: Good, Text and Parse answer what the document says: the walk of the law. Printed by wip/mkidenttexts.py. -/
import Derived.Test.YtnccmcnmoccfmaaDoorIdentLaw
namespace Go.Proofs.YtnccmcnmoccfmaaDoor
open Go.RowKit
set_option linter.unusedVariables false

set_option maxRecDepth 50000 in
set_option maxHeartbeats 4000000 in
theorem texts_empty_t (X Z : Array Value) (T S : ByteArray) (L n : Nat) (k : UInt8) (w : World) (hT : Tab w) (hpX : X.size = 33) (hpZ : Z.size = 33) (hZ1 : ∀ v ∈ Z.toList, v.oneCell' = true) (hS : S.size = L) (hL : ¬ 1024 < L)
    (hp : ∀ w', Calls Tryd.prog 15 #[.string S] w' fun e w'' => e = .returned (.tuple #[.agg Z, .bool false]) ∧ Ext w' w'')
    (hnm : ∀ w', Calls Tryd.prog 17 #[.agg X] w' fun e w'' => e = .returned (.string T) ∧ Ext w' w'')
    (htx : ∀ w', Calls Tryd.prog 13 #[.agg X] w' fun e w'' => e = .returned (.string T) ∧ Ext w' w'')
    (hgd : ∀ w', Calls Tryd.prog 14 #[.agg X] w' fun e w'' => e = .returned (.bool true) ∧ Ext w' w'')
    (hsz : ∀ w', Calls Tryd.prog 12 #[.int .u8 k.toNat] w' fun e w'' => e = .returned (.int .i64 n) ∧ w' = w'')
    (heq : ∀ w', (Op.equalIn 10000 26 (.agg Z) (.agg (bv idNone).toArray)).run Tryd.prog w' = .ok true w')
    (h0 : L = 0)
    (hne : ¬ T.toList = []) (hem : T.toList.isEmpty = false)
    : Calls Tryd.prog 6 #[.agg X, .string S] w fun e w' => e = .returned (.bool true) ∧ Ext w w' := by
  subst h0
  have hself : (T.toList == T.toList) = true := by simp
  go_enter Tryd.func6, Tryd.ntmps6
  have hB0 : Blk (w.alloc (.cells X 26)) w.heap.size 26 X := Blk.new w _ _
  have hx0 : Ext w (w.alloc (.cells X 26)) := (Ext.refl _).alloc _
  go_wp2_with (first
    | (refine wpList_skip rfl rfl ?_; simp only [Act.put, List.setIfInBounds_toArray, List.set_cons_zero, List.set_cons_succ])
    | (go_at_call 8; (with_reducible refine (ident_alive _ (hT.ext hx0)).mono ?_); rintro e w1 ⟨rfl, hx1⟩; have hx01 := hx0.trans hx1; have hB1 := hB0.ext hx1)
    | (go_at_call 15; (with_reducible refine (hp _).mono ?_); rintro e w2 ⟨rfl, hx2⟩; have hx02 := hx01.trans hx2; have hB2 := hB1.ext hx2)
    | (refine wpList_store_blk rfl 26 (.tmp 5) (.tmp 18) rfl rfl w2.heap.size Z rfl rfl _ _ (Blk.new_at rfl _ _) (by rw [hpZ]; rfl) (by kernel_rfl) hZ1 ?_; intro w3 hZ3 hg3; have hx23 : Ext w2 w3 := ((Ext.refl _).alloc _).grown_ hg3 (by simp); have hx03 := hx02.trans hx23; have hB3 := hB2.ext hx23; clear hg3)
    | (go_at_call 12; (with_reducible refine (hsz _).mono ?_); rintro e wq ⟨rfl, rfl⟩)
    | (refine wpList_store_blk rfl 26 (.tmp 8) (.tmp 38) rfl rfl w3.heap.size (bv idNone).toArray rfl rfl _ _ (Blk.new_at rfl _ _) rfl (by kernel_rfl) (bv_cells _) ?_; intro w4 hW4 hg4; have hx34 : Ext w3 w4 := ((Ext.refl _).alloc _).grown_ hg4 (by simp); have hx04 := hx03.trans hx34; have hB4 := hB3.ext hx34; have hZ4 := hZ3.ext hx34; clear hg4)
    | (refine wpList_load_w 26 (.tmp 2) rfl w.heap.size rfl rfl _ X _ (by first | exact hB8 | exact hB7 | exact hB4) Tryd.underlying26 rfl (by rw [hpX]; kernel_rfl) ?_)
    | (go_at_call 17; (with_reducible refine (hnm _).mono ?_); rintro e w7 ⟨rfl, hx7⟩; have hx07 := hx04.trans hx7; have hB7 := hB4.ext hx7; have hZ7 := hZ4.ext hx7; have hW7 := hW4.ext hx7)
    | (refine wpList_load_w 26 (.tmp 5) rfl w2.heap.size rfl rfl _ Z _ hZ7 Tryd.underlying26 rfl (by rw [hpZ]; kernel_rfl) ?_)
    | (refine wpList_load_w 26 (.tmp 8) rfl w3.heap.size rfl rfl _ (bv idNone).toArray _ hW7 Tryd.underlying26 rfl (by kernel_rfl) ?_)
    | (go_at_call 13; (with_reducible refine (htx _).mono ?_); rintro e w8 ⟨rfl, hx8⟩; have hx08 := hx07.trans hx8; have hB8 := hB7.ext hx8)
    | (go_at_call 14; (with_reducible refine (hgd _).mono ?_); rintro e w9 ⟨rfl, hx9⟩; have hx09 := hx08.trans hx9))
  all_goals (first | (go_ret; exact ⟨rfl, hx09⟩) | (trace_state; sorry))

set_option maxRecDepth 50000 in
set_option maxHeartbeats 4000000 in
theorem texts_empty_f (X Z : Array Value) (T S : ByteArray) (L n : Nat) (k : UInt8) (w : World) (hT : Tab w) (hpX : X.size = 33) (hpZ : Z.size = 33) (hZ1 : ∀ v ∈ Z.toList, v.oneCell' = true) (hS : S.size = L) (hL : ¬ 1024 < L)
    (hp : ∀ w', Calls Tryd.prog 15 #[.string S] w' fun e w'' => e = .returned (.tuple #[.agg Z, .bool false]) ∧ Ext w' w'')
    (hnm : ∀ w', Calls Tryd.prog 17 #[.agg X] w' fun e w'' => e = .returned (.string T) ∧ Ext w' w'')
    (htx : ∀ w', Calls Tryd.prog 13 #[.agg X] w' fun e w'' => e = .returned (.string T) ∧ Ext w' w'')
    (hgd : ∀ w', Calls Tryd.prog 14 #[.agg X] w' fun e w'' => e = .returned (.bool false) ∧ Ext w' w'')
    (hsz : ∀ w', Calls Tryd.prog 12 #[.int .u8 k.toNat] w' fun e w'' => e = .returned (.int .i64 n) ∧ w' = w'')
    (heq : ∀ w', (Op.equalIn 10000 26 (.agg Z) (.agg (bv idNone).toArray)).run Tryd.prog w' = .ok true w')
    (h0 : L = 0)
    (hne : T.toList = [])
    : Calls Tryd.prog 6 #[.agg X, .string S] w fun e w' => e = .returned (.bool true) ∧ Ext w w' := by
  subst h0
  have hself : (T.toList == T.toList) = true := by simp
  go_enter Tryd.func6, Tryd.ntmps6
  have hB0 : Blk (w.alloc (.cells X 26)) w.heap.size 26 X := Blk.new w _ _
  have hx0 : Ext w (w.alloc (.cells X 26)) := (Ext.refl _).alloc _
  go_wp2_with (first
    | (refine wpList_skip rfl rfl ?_; simp only [Act.put, List.setIfInBounds_toArray, List.set_cons_zero, List.set_cons_succ])
    | (go_at_call 8; (with_reducible refine (ident_alive _ (hT.ext hx0)).mono ?_); rintro e w1 ⟨rfl, hx1⟩; have hx01 := hx0.trans hx1; have hB1 := hB0.ext hx1)
    | (go_at_call 15; (with_reducible refine (hp _).mono ?_); rintro e w2 ⟨rfl, hx2⟩; have hx02 := hx01.trans hx2; have hB2 := hB1.ext hx2)
    | (refine wpList_store_blk rfl 26 (.tmp 5) (.tmp 18) rfl rfl w2.heap.size Z rfl rfl _ _ (Blk.new_at rfl _ _) (by rw [hpZ]; rfl) (by kernel_rfl) hZ1 ?_; intro w3 hZ3 hg3; have hx23 : Ext w2 w3 := ((Ext.refl _).alloc _).grown_ hg3 (by simp); have hx03 := hx02.trans hx23; have hB3 := hB2.ext hx23; clear hg3)
    | (go_at_call 12; (with_reducible refine (hsz _).mono ?_); rintro e wq ⟨rfl, rfl⟩)
    | (refine wpList_store_blk rfl 26 (.tmp 8) (.tmp 38) rfl rfl w3.heap.size (bv idNone).toArray rfl rfl _ _ (Blk.new_at rfl _ _) rfl (by kernel_rfl) (bv_cells _) ?_; intro w4 hW4 hg4; have hx34 : Ext w3 w4 := ((Ext.refl _).alloc _).grown_ hg4 (by simp); have hx04 := hx03.trans hx34; have hB4 := hB3.ext hx34; have hZ4 := hZ3.ext hx34; clear hg4)
    | (refine wpList_load_w 26 (.tmp 2) rfl w.heap.size rfl rfl _ X _ (by first | exact hB8 | exact hB7 | exact hB4) Tryd.underlying26 rfl (by rw [hpX]; kernel_rfl) ?_)
    | (go_at_call 17; (with_reducible refine (hnm _).mono ?_); rintro e w7 ⟨rfl, hx7⟩; have hx07 := hx04.trans hx7; have hB7 := hB4.ext hx7; have hZ7 := hZ4.ext hx7; have hW7 := hW4.ext hx7)
    | (refine wpList_load_w 26 (.tmp 5) rfl w2.heap.size rfl rfl _ Z _ hZ7 Tryd.underlying26 rfl (by rw [hpZ]; kernel_rfl) ?_)
    | (refine wpList_load_w 26 (.tmp 8) rfl w3.heap.size rfl rfl _ (bv idNone).toArray _ hW7 Tryd.underlying26 rfl (by kernel_rfl) ?_)
    | (go_at_call 13; (with_reducible refine (htx _).mono ?_); rintro e w8 ⟨rfl, hx8⟩; have hx08 := hx07.trans hx8; have hB8 := hB7.ext hx8)
    | (go_at_call 14; (with_reducible refine (hgd _).mono ?_); rintro e w9 ⟨rfl, hx9⟩; have hx09 := hx08.trans hx9))
  all_goals (first | (go_ret; exact ⟨rfl, hx09⟩) | (trace_state; sorry))

set_option maxRecDepth 50000 in
set_option maxHeartbeats 4000000 in
theorem texts_none_t (X Z : Array Value) (T S : ByteArray) (L n : Nat) (k : UInt8) (w : World) (hT : Tab w) (hpX : X.size = 33) (hpZ : Z.size = 33) (hZ1 : ∀ v ∈ Z.toList, v.oneCell' = true) (hS : S.size = L) (hL : ¬ 1024 < L)
    (hp : ∀ w', Calls Tryd.prog 15 #[.string S] w' fun e w'' => e = .returned (.tuple #[.agg Z, .bool false]) ∧ Ext w' w'')
    (hnm : ∀ w', Calls Tryd.prog 17 #[.agg X] w' fun e w'' => e = .returned (.string T) ∧ Ext w' w'')
    (htx : ∀ w', Calls Tryd.prog 13 #[.agg X] w' fun e w'' => e = .returned (.string T) ∧ Ext w' w'')
    (hgd : ∀ w', Calls Tryd.prog 14 #[.agg X] w' fun e w'' => e = .returned (.bool true) ∧ Ext w' w'')
    (hsz : ∀ w', Calls Tryd.prog 12 #[.int .u8 k.toNat] w' fun e w'' => e = .returned (.int .i64 n) ∧ w' = w'')
    (heq : ∀ w', (Op.equalIn 10000 26 (.agg Z) (.agg (bv idNone).toArray)).run Tryd.prog w' = .ok true w')
    (hLp : 0 < L) (hget : ∀ h' : 0 < S.size, S[0]'h' = k)
    (hn0 : n = 0)
    (hne : ¬ T.toList = []) (hem : T.toList.isEmpty = false)
    : Calls Tryd.prog 6 #[.agg X, .string S] w fun e w' => e = .returned (.bool true) ∧ Ext w w' := by
  subst hn0
  have hLi : (0 : Int) < (L : Int) := by omega
  have hself : (T.toList == T.toList) = true := by simp
  go_enter Tryd.func6, Tryd.ntmps6
  have hB0 : Blk (w.alloc (.cells X 26)) w.heap.size 26 X := Blk.new w _ _
  have hx0 : Ext w (w.alloc (.cells X 26)) := (Ext.refl _).alloc _
  go_wp2_with (first
    | (refine wpList_skip rfl rfl ?_; simp only [Act.put, List.setIfInBounds_toArray, List.set_cons_zero, List.set_cons_succ])
    | (go_at_call 8; (with_reducible refine (ident_alive _ (hT.ext hx0)).mono ?_); rintro e w1 ⟨rfl, hx1⟩; have hx01 := hx0.trans hx1; have hB1 := hB0.ext hx1)
    | (go_at_call 15; (with_reducible refine (hp _).mono ?_); rintro e w2 ⟨rfl, hx2⟩; have hx02 := hx01.trans hx2; have hB2 := hB1.ext hx2)
    | (refine wpList_store_blk rfl 26 (.tmp 5) (.tmp 18) rfl rfl w2.heap.size Z rfl rfl _ _ (Blk.new_at rfl _ _) (by rw [hpZ]; rfl) (by kernel_rfl) hZ1 ?_; intro w3 hZ3 hg3; have hx23 : Ext w2 w3 := ((Ext.refl _).alloc _).grown_ hg3 (by simp); have hx03 := hx02.trans hx23; have hB3 := hB2.ext hx23; clear hg3)
    | (go_at_call 12; (with_reducible refine (hsz _).mono ?_); rintro e wq ⟨rfl, rfl⟩)
    | (refine wpList_store_blk rfl 26 (.tmp 8) (.tmp 38) rfl rfl w3.heap.size (bv idNone).toArray rfl rfl _ _ (Blk.new_at rfl _ _) rfl (by kernel_rfl) (bv_cells _) ?_; intro w4 hW4 hg4; have hx34 : Ext w3 w4 := ((Ext.refl _).alloc _).grown_ hg4 (by simp); have hx04 := hx03.trans hx34; have hB4 := hB3.ext hx34; have hZ4 := hZ3.ext hx34; clear hg4)
    | (refine wpList_load_w 26 (.tmp 2) rfl w.heap.size rfl rfl _ X _ (by first | exact hB8 | exact hB7 | exact hB4) Tryd.underlying26 rfl (by rw [hpX]; kernel_rfl) ?_)
    | (go_at_call 17; (with_reducible refine (hnm _).mono ?_); rintro e w7 ⟨rfl, hx7⟩; have hx07 := hx04.trans hx7; have hB7 := hB4.ext hx7; have hZ7 := hZ4.ext hx7; have hW7 := hW4.ext hx7)
    | (refine wpList_load_w 26 (.tmp 5) rfl w2.heap.size rfl rfl _ Z _ hZ7 Tryd.underlying26 rfl (by rw [hpZ]; kernel_rfl) ?_)
    | (refine wpList_load_w 26 (.tmp 8) rfl w3.heap.size rfl rfl _ (bv idNone).toArray _ hW7 Tryd.underlying26 rfl (by kernel_rfl) ?_)
    | (go_at_call 13; (with_reducible refine (htx _).mono ?_); rintro e w8 ⟨rfl, hx8⟩; have hx08 := hx07.trans hx8; have hB8 := hB7.ext hx8)
    | (go_at_call 14; (with_reducible refine (hgd _).mono ?_); rintro e w9 ⟨rfl, hx9⟩; have hx09 := hx08.trans hx9))
  all_goals (first | (go_ret; exact ⟨rfl, hx09⟩) | (trace_state; sorry))

set_option maxRecDepth 50000 in
set_option maxHeartbeats 4000000 in
theorem texts_none_f (X Z : Array Value) (T S : ByteArray) (L n : Nat) (k : UInt8) (w : World) (hT : Tab w) (hpX : X.size = 33) (hpZ : Z.size = 33) (hZ1 : ∀ v ∈ Z.toList, v.oneCell' = true) (hS : S.size = L) (hL : ¬ 1024 < L)
    (hp : ∀ w', Calls Tryd.prog 15 #[.string S] w' fun e w'' => e = .returned (.tuple #[.agg Z, .bool false]) ∧ Ext w' w'')
    (hnm : ∀ w', Calls Tryd.prog 17 #[.agg X] w' fun e w'' => e = .returned (.string T) ∧ Ext w' w'')
    (htx : ∀ w', Calls Tryd.prog 13 #[.agg X] w' fun e w'' => e = .returned (.string T) ∧ Ext w' w'')
    (hgd : ∀ w', Calls Tryd.prog 14 #[.agg X] w' fun e w'' => e = .returned (.bool false) ∧ Ext w' w'')
    (hsz : ∀ w', Calls Tryd.prog 12 #[.int .u8 k.toNat] w' fun e w'' => e = .returned (.int .i64 n) ∧ w' = w'')
    (heq : ∀ w', (Op.equalIn 10000 26 (.agg Z) (.agg (bv idNone).toArray)).run Tryd.prog w' = .ok true w')
    (hLp : 0 < L) (hget : ∀ h' : 0 < S.size, S[0]'h' = k)
    (hn0 : n = 0)
    (hne : T.toList = [])
    : Calls Tryd.prog 6 #[.agg X, .string S] w fun e w' => e = .returned (.bool true) ∧ Ext w w' := by
  subst hn0
  have hLi : (0 : Int) < (L : Int) := by omega
  have hself : (T.toList == T.toList) = true := by simp
  go_enter Tryd.func6, Tryd.ntmps6
  have hB0 : Blk (w.alloc (.cells X 26)) w.heap.size 26 X := Blk.new w _ _
  have hx0 : Ext w (w.alloc (.cells X 26)) := (Ext.refl _).alloc _
  go_wp2_with (first
    | (refine wpList_skip rfl rfl ?_; simp only [Act.put, List.setIfInBounds_toArray, List.set_cons_zero, List.set_cons_succ])
    | (go_at_call 8; (with_reducible refine (ident_alive _ (hT.ext hx0)).mono ?_); rintro e w1 ⟨rfl, hx1⟩; have hx01 := hx0.trans hx1; have hB1 := hB0.ext hx1)
    | (go_at_call 15; (with_reducible refine (hp _).mono ?_); rintro e w2 ⟨rfl, hx2⟩; have hx02 := hx01.trans hx2; have hB2 := hB1.ext hx2)
    | (refine wpList_store_blk rfl 26 (.tmp 5) (.tmp 18) rfl rfl w2.heap.size Z rfl rfl _ _ (Blk.new_at rfl _ _) (by rw [hpZ]; rfl) (by kernel_rfl) hZ1 ?_; intro w3 hZ3 hg3; have hx23 : Ext w2 w3 := ((Ext.refl _).alloc _).grown_ hg3 (by simp); have hx03 := hx02.trans hx23; have hB3 := hB2.ext hx23; clear hg3)
    | (go_at_call 12; (with_reducible refine (hsz _).mono ?_); rintro e wq ⟨rfl, rfl⟩)
    | (refine wpList_store_blk rfl 26 (.tmp 8) (.tmp 38) rfl rfl w3.heap.size (bv idNone).toArray rfl rfl _ _ (Blk.new_at rfl _ _) rfl (by kernel_rfl) (bv_cells _) ?_; intro w4 hW4 hg4; have hx34 : Ext w3 w4 := ((Ext.refl _).alloc _).grown_ hg4 (by simp); have hx04 := hx03.trans hx34; have hB4 := hB3.ext hx34; have hZ4 := hZ3.ext hx34; clear hg4)
    | (refine wpList_load_w 26 (.tmp 2) rfl w.heap.size rfl rfl _ X _ (by first | exact hB8 | exact hB7 | exact hB4) Tryd.underlying26 rfl (by rw [hpX]; kernel_rfl) ?_)
    | (go_at_call 17; (with_reducible refine (hnm _).mono ?_); rintro e w7 ⟨rfl, hx7⟩; have hx07 := hx04.trans hx7; have hB7 := hB4.ext hx7; have hZ7 := hZ4.ext hx7; have hW7 := hW4.ext hx7)
    | (refine wpList_load_w 26 (.tmp 5) rfl w2.heap.size rfl rfl _ Z _ hZ7 Tryd.underlying26 rfl (by rw [hpZ]; kernel_rfl) ?_)
    | (refine wpList_load_w 26 (.tmp 8) rfl w3.heap.size rfl rfl _ (bv idNone).toArray _ hW7 Tryd.underlying26 rfl (by kernel_rfl) ?_)
    | (go_at_call 13; (with_reducible refine (htx _).mono ?_); rintro e w8 ⟨rfl, hx8⟩; have hx08 := hx07.trans hx8; have hB8 := hB7.ext hx8)
    | (go_at_call 14; (with_reducible refine (hgd _).mono ?_); rintro e w9 ⟨rfl, hx9⟩; have hx09 := hx08.trans hx9))
  all_goals (first | (go_ret; exact ⟨rfl, hx09⟩) | (trace_state; sorry))

set_option maxRecDepth 50000 in
set_option maxHeartbeats 4000000 in
theorem texts_long_t (X Z : Array Value) (T S : ByteArray) (L n : Nat) (k : UInt8) (w : World) (hT : Tab w) (hpX : X.size = 33) (hpZ : Z.size = 33) (hZ1 : ∀ v ∈ Z.toList, v.oneCell' = true) (hS : S.size = L) (hL : ¬ 1024 < L)
    (hp : ∀ w', Calls Tryd.prog 15 #[.string S] w' fun e w'' => e = .returned (.tuple #[.agg Z, .bool false]) ∧ Ext w' w'')
    (hnm : ∀ w', Calls Tryd.prog 17 #[.agg X] w' fun e w'' => e = .returned (.string T) ∧ Ext w' w'')
    (htx : ∀ w', Calls Tryd.prog 13 #[.agg X] w' fun e w'' => e = .returned (.string T) ∧ Ext w' w'')
    (hgd : ∀ w', Calls Tryd.prog 14 #[.agg X] w' fun e w'' => e = .returned (.bool true) ∧ Ext w' w'')
    (hsz : ∀ w', Calls Tryd.prog 12 #[.int .u8 k.toNat] w' fun e w'' => e = .returned (.int .i64 n) ∧ w' = w'')
    (heq : ∀ w', (Op.equalIn 10000 26 (.agg Z) (.agg (bv idNone).toArray)).run Tryd.prog w' = .ok true w')
    (hLp : 0 < L) (hget : ∀ h' : 0 < S.size, S[0]'h' = k)
    (hnp : 0 < n) (hl1 : ¬ L = 1 + n) (hn32 : n ≤ 32)
    (hne : ¬ T.toList = []) (hem : T.toList.isEmpty = false)
    : Calls Tryd.prog 6 #[.agg X, .string S] w fun e w' => e = .returned (.bool true) ∧ Ext w w' := by
  have hni : (0 : Int) < (n : Int) := by omega
  have hlb : (((L : Int) == 1 + (n : Int)) : Bool) = false := by rw [beq_eq_false_iff_ne]; omega
  have hLi : (0 : Int) < (L : Int) := by omega
  have hself : (T.toList == T.toList) = true := by simp
  go_enter Tryd.func6, Tryd.ntmps6
  have hB0 : Blk (w.alloc (.cells X 26)) w.heap.size 26 X := Blk.new w _ _
  have hx0 : Ext w (w.alloc (.cells X 26)) := (Ext.refl _).alloc _
  go_wp2_with (first
    | (refine wpList_skip rfl rfl ?_; simp only [Act.put, List.setIfInBounds_toArray, List.set_cons_zero, List.set_cons_succ])
    | (go_at_call 8; (with_reducible refine (ident_alive _ (hT.ext hx0)).mono ?_); rintro e w1 ⟨rfl, hx1⟩; have hx01 := hx0.trans hx1; have hB1 := hB0.ext hx1)
    | (go_at_call 15; (with_reducible refine (hp _).mono ?_); rintro e w2 ⟨rfl, hx2⟩; have hx02 := hx01.trans hx2; have hB2 := hB1.ext hx2)
    | (refine wpList_store_blk rfl 26 (.tmp 5) (.tmp 18) rfl rfl w2.heap.size Z rfl rfl _ _ (Blk.new_at rfl _ _) (by rw [hpZ]; rfl) (by kernel_rfl) hZ1 ?_; intro w3 hZ3 hg3; have hx23 : Ext w2 w3 := ((Ext.refl _).alloc _).grown_ hg3 (by simp); have hx03 := hx02.trans hx23; have hB3 := hB2.ext hx23; clear hg3)
    | (go_at_call 12; (with_reducible refine (hsz _).mono ?_); rintro e wq ⟨rfl, rfl⟩)
    | (refine wpList_store_blk rfl 26 (.tmp 8) (.tmp 38) rfl rfl w3.heap.size (bv idNone).toArray rfl rfl _ _ (Blk.new_at rfl _ _) rfl (by kernel_rfl) (bv_cells _) ?_; intro w4 hW4 hg4; have hx34 : Ext w3 w4 := ((Ext.refl _).alloc _).grown_ hg4 (by simp); have hx04 := hx03.trans hx34; have hB4 := hB3.ext hx34; have hZ4 := hZ3.ext hx34; clear hg4)
    | (refine wpList_load_w 26 (.tmp 2) rfl w.heap.size rfl rfl _ X _ (by first | exact hB8 | exact hB7 | exact hB4) Tryd.underlying26 rfl (by rw [hpX]; kernel_rfl) ?_)
    | (go_at_call 17; (with_reducible refine (hnm _).mono ?_); rintro e w7 ⟨rfl, hx7⟩; have hx07 := hx04.trans hx7; have hB7 := hB4.ext hx7; have hZ7 := hZ4.ext hx7; have hW7 := hW4.ext hx7)
    | (refine wpList_load_w 26 (.tmp 5) rfl w2.heap.size rfl rfl _ Z _ hZ7 Tryd.underlying26 rfl (by rw [hpZ]; kernel_rfl) ?_)
    | (refine wpList_load_w 26 (.tmp 8) rfl w3.heap.size rfl rfl _ (bv idNone).toArray _ hW7 Tryd.underlying26 rfl (by kernel_rfl) ?_)
    | (go_at_call 13; (with_reducible refine (htx _).mono ?_); rintro e w8 ⟨rfl, hx8⟩; have hx08 := hx07.trans hx8; have hB8 := hB7.ext hx8)
    | (go_at_call 14; (with_reducible refine (hgd _).mono ?_); rintro e w9 ⟨rfl, hx9⟩; have hx09 := hx08.trans hx9))
  all_goals (first | (go_ret; exact ⟨rfl, hx09⟩) | (trace_state; sorry))

set_option maxRecDepth 50000 in
set_option maxHeartbeats 4000000 in
theorem texts_long_f (X Z : Array Value) (T S : ByteArray) (L n : Nat) (k : UInt8) (w : World) (hT : Tab w) (hpX : X.size = 33) (hpZ : Z.size = 33) (hZ1 : ∀ v ∈ Z.toList, v.oneCell' = true) (hS : S.size = L) (hL : ¬ 1024 < L)
    (hp : ∀ w', Calls Tryd.prog 15 #[.string S] w' fun e w'' => e = .returned (.tuple #[.agg Z, .bool false]) ∧ Ext w' w'')
    (hnm : ∀ w', Calls Tryd.prog 17 #[.agg X] w' fun e w'' => e = .returned (.string T) ∧ Ext w' w'')
    (htx : ∀ w', Calls Tryd.prog 13 #[.agg X] w' fun e w'' => e = .returned (.string T) ∧ Ext w' w'')
    (hgd : ∀ w', Calls Tryd.prog 14 #[.agg X] w' fun e w'' => e = .returned (.bool false) ∧ Ext w' w'')
    (hsz : ∀ w', Calls Tryd.prog 12 #[.int .u8 k.toNat] w' fun e w'' => e = .returned (.int .i64 n) ∧ w' = w'')
    (heq : ∀ w', (Op.equalIn 10000 26 (.agg Z) (.agg (bv idNone).toArray)).run Tryd.prog w' = .ok true w')
    (hLp : 0 < L) (hget : ∀ h' : 0 < S.size, S[0]'h' = k)
    (hnp : 0 < n) (hl1 : ¬ L = 1 + n) (hn32 : n ≤ 32)
    (hne : T.toList = [])
    : Calls Tryd.prog 6 #[.agg X, .string S] w fun e w' => e = .returned (.bool true) ∧ Ext w w' := by
  have hni : (0 : Int) < (n : Int) := by omega
  have hlb : (((L : Int) == 1 + (n : Int)) : Bool) = false := by rw [beq_eq_false_iff_ne]; omega
  have hLi : (0 : Int) < (L : Int) := by omega
  have hself : (T.toList == T.toList) = true := by simp
  go_enter Tryd.func6, Tryd.ntmps6
  have hB0 : Blk (w.alloc (.cells X 26)) w.heap.size 26 X := Blk.new w _ _
  have hx0 : Ext w (w.alloc (.cells X 26)) := (Ext.refl _).alloc _
  go_wp2_with (first
    | (refine wpList_skip rfl rfl ?_; simp only [Act.put, List.setIfInBounds_toArray, List.set_cons_zero, List.set_cons_succ])
    | (go_at_call 8; (with_reducible refine (ident_alive _ (hT.ext hx0)).mono ?_); rintro e w1 ⟨rfl, hx1⟩; have hx01 := hx0.trans hx1; have hB1 := hB0.ext hx1)
    | (go_at_call 15; (with_reducible refine (hp _).mono ?_); rintro e w2 ⟨rfl, hx2⟩; have hx02 := hx01.trans hx2; have hB2 := hB1.ext hx2)
    | (refine wpList_store_blk rfl 26 (.tmp 5) (.tmp 18) rfl rfl w2.heap.size Z rfl rfl _ _ (Blk.new_at rfl _ _) (by rw [hpZ]; rfl) (by kernel_rfl) hZ1 ?_; intro w3 hZ3 hg3; have hx23 : Ext w2 w3 := ((Ext.refl _).alloc _).grown_ hg3 (by simp); have hx03 := hx02.trans hx23; have hB3 := hB2.ext hx23; clear hg3)
    | (go_at_call 12; (with_reducible refine (hsz _).mono ?_); rintro e wq ⟨rfl, rfl⟩)
    | (refine wpList_store_blk rfl 26 (.tmp 8) (.tmp 38) rfl rfl w3.heap.size (bv idNone).toArray rfl rfl _ _ (Blk.new_at rfl _ _) rfl (by kernel_rfl) (bv_cells _) ?_; intro w4 hW4 hg4; have hx34 : Ext w3 w4 := ((Ext.refl _).alloc _).grown_ hg4 (by simp); have hx04 := hx03.trans hx34; have hB4 := hB3.ext hx34; have hZ4 := hZ3.ext hx34; clear hg4)
    | (refine wpList_load_w 26 (.tmp 2) rfl w.heap.size rfl rfl _ X _ (by first | exact hB8 | exact hB7 | exact hB4) Tryd.underlying26 rfl (by rw [hpX]; kernel_rfl) ?_)
    | (go_at_call 17; (with_reducible refine (hnm _).mono ?_); rintro e w7 ⟨rfl, hx7⟩; have hx07 := hx04.trans hx7; have hB7 := hB4.ext hx7; have hZ7 := hZ4.ext hx7; have hW7 := hW4.ext hx7)
    | (refine wpList_load_w 26 (.tmp 5) rfl w2.heap.size rfl rfl _ Z _ hZ7 Tryd.underlying26 rfl (by rw [hpZ]; kernel_rfl) ?_)
    | (refine wpList_load_w 26 (.tmp 8) rfl w3.heap.size rfl rfl _ (bv idNone).toArray _ hW7 Tryd.underlying26 rfl (by kernel_rfl) ?_)
    | (go_at_call 13; (with_reducible refine (htx _).mono ?_); rintro e w8 ⟨rfl, hx8⟩; have hx08 := hx07.trans hx8; have hB8 := hB7.ext hx8)
    | (go_at_call 14; (with_reducible refine (hgd _).mono ?_); rintro e w9 ⟨rfl, hx9⟩; have hx09 := hx08.trans hx9))
  all_goals (first | (go_ret; exact ⟨rfl, hx09⟩) | (trace_state; sorry))

set_option maxRecDepth 50000 in
set_option maxHeartbeats 4000000 in
theorem texts_can_t (X Z : Array Value) (T S : ByteArray) (L n : Nat) (k : UInt8) (w : World) (hT : Tab w) (hpX : X.size = 33) (hpZ : Z.size = 33) (hZ1 : ∀ v ∈ Z.toList, v.oneCell' = true) (hS : S.size = L) (hL : ¬ 1024 < L)
    (hp : ∀ w', Calls Tryd.prog 15 #[.string S] w' fun e w'' => e = .returned (.tuple #[.agg Z, .bool true]) ∧ Ext w' w'')
    (hnm : ∀ w', Calls Tryd.prog 17 #[.agg X] w' fun e w'' => e = .returned (.string T) ∧ Ext w' w'')
    (htx : ∀ w', Calls Tryd.prog 13 #[.agg X] w' fun e w'' => e = .returned (.string T) ∧ Ext w' w'')
    (hgd : ∀ w', Calls Tryd.prog 14 #[.agg X] w' fun e w'' => e = .returned (.bool true) ∧ Ext w' w'')
    (hsz : ∀ w', Calls Tryd.prog 12 #[.int .u8 k.toNat] w' fun e w'' => e = .returned (.int .i64 n) ∧ w' = w'')
    (hid : ∀ w', Calls Tryd.prog 16 #[.string S] w' fun e w'' => e = .returned (.agg Z) ∧ Ext w' w'')
    (heq : ∀ w', (Op.equalIn 10000 26 (.agg Z) (.agg Z)).run Tryd.prog w' = .ok true w')
    (hLp : 0 < L) (hget : ∀ h' : 0 < S.size, S[0]'h' = k)
    (hnp : 0 < n) (hl1 : L = 1 + n) (hn32 : n ≤ 32)
    (hne : ¬ T.toList = []) (hem : T.toList.isEmpty = false)
    : Calls Tryd.prog 6 #[.agg X, .string S] w fun e w' => e = .returned (.bool true) ∧ Ext w w' := by
  have hni : (0 : Int) < (n : Int) := by omega
  have hlb : (((L : Int) == 1 + (n : Int)) : Bool) = true := by rw [beq_iff_eq]; omega
  clear hl1
  have hLi : (0 : Int) < (L : Int) := by omega
  have hself : (T.toList == T.toList) = true := by simp
  go_enter Tryd.func6, Tryd.ntmps6
  have hB0 : Blk (w.alloc (.cells X 26)) w.heap.size 26 X := Blk.new w _ _
  have hx0 : Ext w (w.alloc (.cells X 26)) := (Ext.refl _).alloc _
  go_wp2_with (first
    | (refine wpList_skip rfl rfl ?_; simp only [Act.put, List.setIfInBounds_toArray, List.set_cons_zero, List.set_cons_succ])
    | (go_at_call 8; (with_reducible refine (ident_alive _ (hT.ext hx0)).mono ?_); rintro e w1 ⟨rfl, hx1⟩; have hx01 := hx0.trans hx1; have hB1 := hB0.ext hx1)
    | (go_at_call 15; (with_reducible refine (hp _).mono ?_); rintro e w2 ⟨rfl, hx2⟩; have hx02 := hx01.trans hx2; have hB2 := hB1.ext hx2)
    | (refine wpList_store_blk rfl 26 (.tmp 5) (.tmp 18) rfl rfl w2.heap.size Z rfl rfl _ _ (Blk.new_at rfl _ _) (by rw [hpZ]; rfl) (by kernel_rfl) hZ1 ?_; intro w3 hZ3 hg3; have hx23 : Ext w2 w3 := ((Ext.refl _).alloc _).grown_ hg3 (by simp); have hx03 := hx02.trans hx23; have hB3 := hB2.ext hx23; clear hg3)
    | (go_at_call 12; (with_reducible refine (hsz _).mono ?_); rintro e wq ⟨rfl, rfl⟩)
    | (refine wpList_store_blk rfl 26 (.tmp 8) (.tmp 38) rfl rfl w3.heap.size (bv idNone).toArray rfl rfl _ _ (Blk.new_at rfl _ _) rfl (by kernel_rfl) (bv_cells _) ?_; intro w4 hW4 hg4; have hx34 : Ext w3 w4 := ((Ext.refl _).alloc _).grown_ hg4 (by simp); have hx04 := hx03.trans hx34; have hB4 := hB3.ext hx34; have hZ4 := hZ3.ext hx34; clear hg4)
    | (go_at_call 16; (with_reducible refine (hid _).mono ?_); rintro e w5 ⟨rfl, hx5⟩; have hx05 := hx04.trans hx5; have hB5 := hB4.ext hx5; have hZ5 := hZ4.ext hx5; have hW5 := hW4.ext hx5)
    | (refine wpList_store_blk rfl 26 (.tmp 8) (.tmp 41) rfl rfl w3.heap.size Z rfl rfl _ _ hW5 (by rw [hpZ]; rfl) (by kernel_rfl) hZ1 ?_; intro w6 hW6 hg6; have hx06 : Ext w w6 := hx05.grown_ hg6 (by intro q hq; cases hq; exact hx03.size); have hB6 := hB5.grown hg6 (by intro q; have h := Option.some.inj q; have := hB3.lt; omega); have hZ6 := hZ5.grown hg6 (by intro q; have h := Option.some.inj q; have := hZ3.lt; omega); clear hg6)
    | (refine wpList_load_w 26 (.tmp 2) rfl w.heap.size rfl rfl _ X _ (by first | exact hB8 | exact hB7 | exact hB6) Tryd.underlying26 rfl (by rw [hpX]; kernel_rfl) ?_)
    | (go_at_call 17; (with_reducible refine (hnm _).mono ?_); rintro e w7 ⟨rfl, hx7⟩; have hx07 := hx06.trans hx7; have hB7 := hB6.ext hx7; have hZ7 := hZ6.ext hx7; have hW7 := hW6.ext hx7)
    | (refine wpList_load_w 26 (.tmp 5) rfl w2.heap.size rfl rfl _ Z _ hZ7 Tryd.underlying26 rfl (by rw [hpZ]; kernel_rfl) ?_)
    | (refine wpList_load_w 26 (.tmp 8) rfl w3.heap.size rfl rfl _ Z _ hW7 Tryd.underlying26 rfl (by rw [hpZ]; kernel_rfl) ?_)
    | (go_at_call 13; (with_reducible refine (htx _).mono ?_); rintro e w8 ⟨rfl, hx8⟩; have hx08 := hx07.trans hx8; have hB8 := hB7.ext hx8)
    | (go_at_call 14; (with_reducible refine (hgd _).mono ?_); rintro e w9 ⟨rfl, hx9⟩; have hx09 := hx08.trans hx9))
  all_goals (first | (go_ret; exact ⟨rfl, hx09⟩) | (trace_state; sorry))

set_option maxRecDepth 50000 in
set_option maxHeartbeats 4000000 in
theorem texts_can_f (X Z : Array Value) (T S : ByteArray) (L n : Nat) (k : UInt8) (w : World) (hT : Tab w) (hpX : X.size = 33) (hpZ : Z.size = 33) (hZ1 : ∀ v ∈ Z.toList, v.oneCell' = true) (hS : S.size = L) (hL : ¬ 1024 < L)
    (hp : ∀ w', Calls Tryd.prog 15 #[.string S] w' fun e w'' => e = .returned (.tuple #[.agg Z, .bool true]) ∧ Ext w' w'')
    (hnm : ∀ w', Calls Tryd.prog 17 #[.agg X] w' fun e w'' => e = .returned (.string T) ∧ Ext w' w'')
    (htx : ∀ w', Calls Tryd.prog 13 #[.agg X] w' fun e w'' => e = .returned (.string T) ∧ Ext w' w'')
    (hgd : ∀ w', Calls Tryd.prog 14 #[.agg X] w' fun e w'' => e = .returned (.bool false) ∧ Ext w' w'')
    (hsz : ∀ w', Calls Tryd.prog 12 #[.int .u8 k.toNat] w' fun e w'' => e = .returned (.int .i64 n) ∧ w' = w'')
    (hid : ∀ w', Calls Tryd.prog 16 #[.string S] w' fun e w'' => e = .returned (.agg Z) ∧ Ext w' w'')
    (heq : ∀ w', (Op.equalIn 10000 26 (.agg Z) (.agg Z)).run Tryd.prog w' = .ok true w')
    (hLp : 0 < L) (hget : ∀ h' : 0 < S.size, S[0]'h' = k)
    (hnp : 0 < n) (hl1 : L = 1 + n) (hn32 : n ≤ 32)
    (hne : T.toList = [])
    : Calls Tryd.prog 6 #[.agg X, .string S] w fun e w' => e = .returned (.bool true) ∧ Ext w w' := by
  have hni : (0 : Int) < (n : Int) := by omega
  have hlb : (((L : Int) == 1 + (n : Int)) : Bool) = true := by rw [beq_iff_eq]; omega
  clear hl1
  have hLi : (0 : Int) < (L : Int) := by omega
  have hself : (T.toList == T.toList) = true := by simp
  go_enter Tryd.func6, Tryd.ntmps6
  have hB0 : Blk (w.alloc (.cells X 26)) w.heap.size 26 X := Blk.new w _ _
  have hx0 : Ext w (w.alloc (.cells X 26)) := (Ext.refl _).alloc _
  go_wp2_with (first
    | (refine wpList_skip rfl rfl ?_; simp only [Act.put, List.setIfInBounds_toArray, List.set_cons_zero, List.set_cons_succ])
    | (go_at_call 8; (with_reducible refine (ident_alive _ (hT.ext hx0)).mono ?_); rintro e w1 ⟨rfl, hx1⟩; have hx01 := hx0.trans hx1; have hB1 := hB0.ext hx1)
    | (go_at_call 15; (with_reducible refine (hp _).mono ?_); rintro e w2 ⟨rfl, hx2⟩; have hx02 := hx01.trans hx2; have hB2 := hB1.ext hx2)
    | (refine wpList_store_blk rfl 26 (.tmp 5) (.tmp 18) rfl rfl w2.heap.size Z rfl rfl _ _ (Blk.new_at rfl _ _) (by rw [hpZ]; rfl) (by kernel_rfl) hZ1 ?_; intro w3 hZ3 hg3; have hx23 : Ext w2 w3 := ((Ext.refl _).alloc _).grown_ hg3 (by simp); have hx03 := hx02.trans hx23; have hB3 := hB2.ext hx23; clear hg3)
    | (go_at_call 12; (with_reducible refine (hsz _).mono ?_); rintro e wq ⟨rfl, rfl⟩)
    | (refine wpList_store_blk rfl 26 (.tmp 8) (.tmp 38) rfl rfl w3.heap.size (bv idNone).toArray rfl rfl _ _ (Blk.new_at rfl _ _) rfl (by kernel_rfl) (bv_cells _) ?_; intro w4 hW4 hg4; have hx34 : Ext w3 w4 := ((Ext.refl _).alloc _).grown_ hg4 (by simp); have hx04 := hx03.trans hx34; have hB4 := hB3.ext hx34; have hZ4 := hZ3.ext hx34; clear hg4)
    | (go_at_call 16; (with_reducible refine (hid _).mono ?_); rintro e w5 ⟨rfl, hx5⟩; have hx05 := hx04.trans hx5; have hB5 := hB4.ext hx5; have hZ5 := hZ4.ext hx5; have hW5 := hW4.ext hx5)
    | (refine wpList_store_blk rfl 26 (.tmp 8) (.tmp 41) rfl rfl w3.heap.size Z rfl rfl _ _ hW5 (by rw [hpZ]; rfl) (by kernel_rfl) hZ1 ?_; intro w6 hW6 hg6; have hx06 : Ext w w6 := hx05.grown_ hg6 (by intro q hq; cases hq; exact hx03.size); have hB6 := hB5.grown hg6 (by intro q; have h := Option.some.inj q; have := hB3.lt; omega); have hZ6 := hZ5.grown hg6 (by intro q; have h := Option.some.inj q; have := hZ3.lt; omega); clear hg6)
    | (refine wpList_load_w 26 (.tmp 2) rfl w.heap.size rfl rfl _ X _ (by first | exact hB8 | exact hB7 | exact hB6) Tryd.underlying26 rfl (by rw [hpX]; kernel_rfl) ?_)
    | (go_at_call 17; (with_reducible refine (hnm _).mono ?_); rintro e w7 ⟨rfl, hx7⟩; have hx07 := hx06.trans hx7; have hB7 := hB6.ext hx7; have hZ7 := hZ6.ext hx7; have hW7 := hW6.ext hx7)
    | (refine wpList_load_w 26 (.tmp 5) rfl w2.heap.size rfl rfl _ Z _ hZ7 Tryd.underlying26 rfl (by rw [hpZ]; kernel_rfl) ?_)
    | (refine wpList_load_w 26 (.tmp 8) rfl w3.heap.size rfl rfl _ Z _ hW7 Tryd.underlying26 rfl (by rw [hpZ]; kernel_rfl) ?_)
    | (go_at_call 13; (with_reducible refine (htx _).mono ?_); rintro e w8 ⟨rfl, hx8⟩; have hx08 := hx07.trans hx8; have hB8 := hB7.ext hx8)
    | (go_at_call 14; (with_reducible refine (hgd _).mono ?_); rintro e w9 ⟨rfl, hx9⟩; have hx09 := hx08.trans hx9))
  all_goals (first | (go_ret; exact ⟨rfl, hx09⟩) | (trace_state; sorry))

theorem identTexts_calls (b : List UInt8) (s : ByteArray) (w : World) (hb : b.length = 33) (hs : s.size ≤ 140737488351232) (hT : Tab w) :
    Calls Tryd.prog 6 #[.agg (bv b).toArray, .string s] w fun e w' => e = .returned (.bool true) ∧ Ext w w' := by
  obtain ⟨r, hr⟩ : ∃ r, r = s.data.toList := ⟨_, rfl⟩
  have hrs : s = bstr r := by rw [hr, bstr_of]
  have hrl : r.length = s.size := by rw [hr, str_len]
  obtain ⟨L, hL⟩ : ∃ L, s.size = L := ⟨_, rfl⟩
  by_cases hbig : 1024 < L
  · clear hrs hr
    go_enter Tryd.func6, Tryd.ntmps6
    have hx0 : Ext w (w.alloc (.cells (bv b).toArray 26)) := (Ext.refl _).alloc _
    go_wp2_with (go_at_call 8; (with_reducible refine (ident_alive _ (hT.ext hx0)).mono ?_); rintro e w1 ⟨rfl, hx1⟩)
    go_ret
    exact ⟨rfl, hx0.trans hx1⟩
  have hX : (bv b).toArray.size = 33 := by rw [List.size_toArray, bv_len, hb]
  have htx := fun w' => idtext_calls b w' hb
  have hnm := fun w' => rname_calls b w' hb
  have hgd := fun w' => idgood_calls b w' hb
  have hp := fun w' => idparse_calls r w' (by rw [hrl]; exact hs)
  unfold idv at htx hgd hp hnm
  rw [← hrs] at hp
  have sz : ∀ {x : List UInt8}, x.length = 33 → (bv x).toArray.size = 33 := fun h => by rw [List.size_toArray, bv_len, h]
  have heqn := fun w' => id_equal idNone idNone rfl rfl w'
  rw [beq_self_eq_true] at heqn
  obtain ⟨k, hk⟩ : ∃ k, k = idKind r := ⟨_, rfl⟩
  obtain ⟨n, hn⟩ : ∃ n, n = idN k := ⟨_, rfl⟩
  have hn32 : n ≤ 32 := by rw [hn]; exact idN_le k
  have hsz := fun w' => rsize_calls k w'
  rw [← hn] at hsz
  have hcan : idCan r = (decide (0 < n) && decide (L = 1 + n)) := by unfold idCan; rw [← hk, ← hn, hrl, hL]
  have hnil : idGood b = false → (bstr (idText b)).toList = [] := fun h => by
    rw [ByteArray.toList_eq, bstr_data]
    unfold idText
    rw [h]; rfl
  have hne : idGood b = true → ¬ (bstr (idText b)).toList = [] := fun h e => by
    rw [ByteArray.toList_eq, bstr_data] at e
    have := (idCan_kind (idText_can hb h)).2
    rw [e, List.length_nil] at this
    omega
  by_cases hL0 : L = 0
  · have hc : idCan r = false := by rw [hcan, hL0]; simp; omega
    rw [hc, if_neg (by decide)] at hp
    cases hg : idGood b with
    | true =>
      rw [hg] at hgd
      have hne := hne hg
      have hem : (bstr (idText b)).toList.isEmpty = false := by rw [List.isEmpty_eq_false_iff]; exact hne
      exact texts_empty_t _ _ _ s L n k w hT hX (sz rfl) (bv_cells _) hL hbig hp hnm htx hgd hsz heqn hL0 hne hem
    | false =>
      rw [hg] at hgd
      have hnil := hnil hg
      exact texts_empty_f _ _ _ s L n k w hT hX (sz rfl) (bv_cells _) hL hbig hp hnm htx hgd hsz heqn hL0 hnil
  have hLp : 0 < L := by omega
  have hpos : 0 < r.length := by rw [hrl, hL]; exact hLp
  have hget : ∀ h' : 0 < s.size, s[0]'h' = k := by
    intro h'
    subst hrs
    rw [bstr_get hpos h', hk, idKind, List.getD_eq_getElem?_getD, List.getElem?_eq_getElem hpos]
    rfl
  by_cases hn0 : n = 0
  · have hc : idCan r = false := by rw [hcan, hn0]; simp
    rw [hc, if_neg (by decide)] at hp
    cases hg : idGood b with
    | true =>
      rw [hg] at hgd
      have hne := hne hg
      have hem : (bstr (idText b)).toList.isEmpty = false := by rw [List.isEmpty_eq_false_iff]; exact hne
      exact texts_none_t _ _ _ s L n k w hT hX (sz rfl) (bv_cells _) hL hbig hp hnm htx hgd hsz heqn hLp hget hn0 hne hem
    | false =>
      rw [hg] at hgd
      have hnil := hnil hg
      exact texts_none_f _ _ _ s L n k w hT hX (sz rfl) (bv_cells _) hL hbig hp hnm htx hgd hsz heqn hLp hget hn0 hnil
  have hnp : 0 < n := by omega
  by_cases hl1 : L = 1 + n
  · have hc : idCan r = true := by rw [hcan, decide_eq_true hnp, decide_eq_true hl1]; rfl
    rw [hc, if_pos rfl] at hp
    have hid := fun w' => rid_calls r w' (idCan_le hc)
    unfold idv at hid
    rw [← hrs] at hid
    have heqz := fun w' => id_equal (idPad r) (idPad r) (idPad_len (idCan_le hc)) (idPad_len (idCan_le hc)) w'
    rw [beq_self_eq_true] at heqz
    cases hg : idGood b with
    | true =>
      rw [hg] at hgd
      have hne := hne hg
      have hem : (bstr (idText b)).toList.isEmpty = false := by rw [List.isEmpty_eq_false_iff]; exact hne
      exact texts_can_t _ _ _ s L n k w hT hX (sz (idPad_len (idCan_le hc))) (bv_cells _) hL hbig hp hnm htx hgd hsz hid heqz hLp hget hnp hl1 hn32 hne hem
    | false =>
      rw [hg] at hgd
      have hnil := hnil hg
      exact texts_can_f _ _ _ s L n k w hT hX (sz (idPad_len (idCan_le hc))) (bv_cells _) hL hbig hp hnm htx hgd hsz hid heqz hLp hget hnp hl1 hn32 hnil
  · have hc : idCan r = false := by rw [hcan, decide_eq_false hl1, Bool.and_false]
    rw [hc, if_neg (by decide)] at hp
    cases hg : idGood b with
    | true =>
      rw [hg] at hgd
      have hne := hne hg
      have hem : (bstr (idText b)).toList.isEmpty = false := by rw [List.isEmpty_eq_false_iff]; exact hne
      exact texts_long_t _ _ _ s L n k w hT hX (sz rfl) (bv_cells _) hL hbig hp hnm htx hgd hsz heqn hLp hget hnp hl1 hn32 hne hem
    | false =>
      rw [hg] at hgd
      have hnil := hnil hg
      exact texts_long_f _ _ _ s L n k w hT hX (sz rfl) (bv_cells _) hL hbig hp hnm htx hgd hsz heqn hLp hget hnp hl1 hn32 hnil
end Go.Proofs.YtnccmcnmoccfmaaDoor
