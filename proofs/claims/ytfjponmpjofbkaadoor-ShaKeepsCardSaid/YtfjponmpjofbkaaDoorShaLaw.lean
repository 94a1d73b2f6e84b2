/- What the laws of layer 3 share: equal digests, rows of pieces, alive. -/
import Derived.Test.YtfjponmpjofbkaaDoorShaRefOf
import Derived.Test.YtfjponmpjofbkaaDoorShaOf
import Derived.Test.YtfjponmpjofbkaaDoorShaAbc
import Derived.Stop.BytesEq
namespace Go.Proofs.YtfjponmpjofbkaaDoor
open Go.RowKit
set_option linter.unusedVariables false

theorem size_u8 (w : World) : (sizeOf 5).run Tryd.prog w = .ok 1 w := by kernel_rfl
theorem dg_eq (bs : List UInt8) (w : World) : (Op.equalIn 10000 25 (.agg (dgv bs)) (.agg (dgv bs))).run Tryd.prog w = .ok true w := by
  have h := run_equalIn_bytes (P := Tryd.prog) w 9998 25 5 32 Tryd.underlying25 Tryd.underlying5 size_u8 (sha bs) (sha bs) (sha_len bs) (sha_len bs)
  rw [beq_self_eq_true] at h
  exact h

theorem shaOf_calls (a : Option Addr) (n c : Nat) (xs : List (List UInt8)) (bs : List UInt8) (w : World) (h : BSs w a xs) (hn : xs.length = n) (hb : xs.flatten = bs) (hl : n ≤ 1048576) (ht : bs.length ≤ 1048576) (hT : Tab w) :
    Calls Tryd.prog 9 #[.slice a n c] w fun e w' => e = .returned (.agg (dgv bs)) ∧ Ext w w' := by
  subst hb
  exact of_calls a n c xs w h hn hl ht hT

/-- A row of slices from its cells. -/
theorem BSs.one {w : World} {a : Option Addr} {v : Value} {xs : List UInt8} (h : Cells w a [v]) (hv : BS w v xs) : BSs w a [xs] := by
  intro i bs hi
  match i with
  | 0 =>
    simp at hi; subst hi
    obtain ⟨x, e, hc⟩ := h 0 v rfl
    exact ⟨x, v, e, hc, hv⟩
  | n + 1 => simp at hi

theorem dgv_size (bs : List UInt8) : (dgv bs).size = 32 := by rw [dgv, List.size_toArray, bv_length, sha_len]
theorem dgv_cells (bs : List UInt8) : ∀ v ∈ (dgv bs).toList, v.oneCell' = true := by rw [dgv, List.toList_toArray]; exact bv_cells _

theorem abc_cells {w : World} {g : Nat} {t : TypeId} (h : Blk w g t (dgv [97, 98, 99])) : Cells w (some ⟨g, 0, none⟩) (bv [186, 120, 22, 191, 143, 1, 207, 234]) := by
  have k := (Blk.cells h).take 8
  rw [dgv, List.toList_toArray, bv_take, abc_eight] at k
  exact k

theorem sha_alive (w : World) (hT : Tab w) : Calls Tryd.prog 8 #[] w fun e w' => e = .returned (.bool true) ∧ Ext w w' := by
  have kc := fun (w : World) (C : Array Value) (n c : Nat) => Lib.run_convert_bytes_const (P := Tryd.prog) w 24 5 C n c Tryd.underlying24 Tryd.underlying5
  go_enter Tryd.func8, Tryd.ntmps8
  go_wp2_with (first
    | (go_at_call 9; ((with_reducible refine (shaOf_calls _ 1 1 [[97, 98, 99]] [97, 98, 99] _ ?h1 rfl rfl (by decide) (by decide) ?h2).mono ?_); (case h1 => exact BSs.one (Cells.lit (by simp) [_] _ _) (BS.of rfl (by decide) ((Cells.lit rfl [.int .u8 97, .int .u8 98, .int .u8 99] _ _).ext ((Ext.refl _).alloc _)))); (case h2 => exact hT.ext (((Ext.refl _).alloc _).alloc _)); rintro e w3 ⟨rfl, hx3⟩))
    | (refine wpList_store_blk rfl 25 (.tmp 1) (.tmp 5) rfl rfl w3.heap.size _ rfl rfl _ _ (Blk.new_at rfl _ _) (dgv_size _) (by kernel_rfl) ?_ ?_; (exact dgv_cells _); intro w4 hb4 hg4; have hcv := conv_str (P := Tryd.prog) Tryd.underlying24 Tryd.underlying5 Tryd.underlying9 (c := 32) (bs := [186, 120, 22, 191, 143, 1, 207, 234]) (n := 8) rfl (abc_cells hb4); have hx4 : Ext w3 w4 := ((Ext.refl _).alloc _).grown_ hg4 (by simp)))
  go_ret
  exact ⟨ret_bool (by kernel_rfl), ((((Ext.refl _).alloc _).alloc _).trans hx3).trans hx4⟩
end Go.Proofs.YtfjponmpjofbkaaDoor
