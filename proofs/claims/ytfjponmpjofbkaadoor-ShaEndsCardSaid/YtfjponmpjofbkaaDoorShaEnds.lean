/- ShaEnds: so it does at each length around a block's end: the walk of the law. -/
import Derived.Test.YtfjponmpjofbkaaDoorShaLaw
import Derived.Test.YtfjponmpjofbkaaDoorMake
namespace Go.Proofs.YtfjponmpjofbkaaDoor
open Go.RowKit
set_option linter.unusedVariables false

/-- Of N bytes the first k are c, the others noughts. -/
def fillN (N k : Nat) (c : UInt8) : List UInt8 := List.replicate k c ++ List.replicate (N - k) 0
theorem fillN_len (N k : Nat) (c : UInt8) (h : k ≤ N) : (fillN N k c).length = N := by simp [fillN]; omega
theorem fillN_set (N k : Nat) (c : UInt8) (h : k < N) : (fillN N k c).set k c = fillN N (k + 1) c := by
  obtain ⟨m, hm⟩ : ∃ m, N - k = m + 1 := ⟨N - k - 1, by omega⟩
  rw [fillN, fillN, hm, show N - (k + 1) = m by omega, List.set_append_right _ _ (by simp), List.length_replicate, Nat.sub_self, List.replicate_succ, List.set_cons_zero, List.replicate_succ', List.append_assoc, List.singleton_append]

theorem Own.set_at {B : Nat} {w : World} {g n cc : Nat} {bs : List UInt8} (h : Own B w (.slice (some ⟨g, 0, none⟩) n cc) bs) (hn : bs.length = n) (k : Nat) (x : UInt8) :
    Own B (w.setCell ⟨g, k, none⟩ (.int .u8 x.toNat)) (.slice (some ⟨g, 0, none⟩) n cc) (bs.set k x) ∧ w.grownBy (w.setCell ⟨g, k, none⟩ (.int .u8 x.toNat)) (some g) := by
  subst hn
  exact h.set k x

theorem Own.cell_at {B : Nat} {w : World} {g n cc : Nat} {bs : List UInt8} (h : Own B w (.slice (some ⟨g, 0, none⟩) n cc) bs) (hn : bs.length = n) {k : Nat} (hk : k < bs.length) : w.cell? ⟨g, k, none⟩ = some (.int .u8 bs[k].toNat) := by
  subst hn
  exact h.cell hk
theorem Own.frozen_at {B : Nat} {w : World} {g n cc : Nat} {bs : List UInt8} (h : Own B w (.slice (some ⟨g, 0, none⟩) n cc) bs) (hn : bs.length = n) (k : Nat) : w.frozen? ⟨g, k, none⟩ = false := by
  subst hn
  exact h.frozen k

theorem ends_out (n : Int) (c : UInt8) (w : World) (hT : Tab w) (h : n < 0 ∨ 600 < n) (hlo : -9223372036854775808 ≤ n) (hhi : n ≤ 9223372036854775807) :
    Calls Tryd.prog 4 #[.int .i64 n, .int .u8 c.toNat] w fun e w' => e = .returned (.bool true) ∧ Ext w w' := by
  rcases h with h | h
  · go_enter Tryd.func4, Tryd.ntmps4
    go_wp2_with (go_at_call 8; ((with_reducible refine (sha_alive _ hT).mono ?_); rintro e w1 ⟨rfl, hx1⟩))
    go_ret
    exact ⟨rfl, hx1⟩
  · have h0 : ¬ n < 0 := by omega
    go_enter Tryd.func4, Tryd.ntmps4
    go_wp2_with (go_at_call 8; ((with_reducible refine (sha_alive _ hT).mono ?_); rintro e w1 ⟨rfl, hx1⟩))
    go_ret
    exact ⟨rfl, hx1⟩

set_option maxHeartbeats 4000000 in
theorem ends_calls (n : Int) (c : UInt8) (w : World) (hT : Tab w) (hlo : -9223372036854775808 ≤ n) (hhi : n ≤ 9223372036854775807) :
    Calls Tryd.prog 4 #[.int .i64 n, .int .u8 c.toNat] w fun e w' => e = .returned (.bool true) ∧ Ext w w' := by
  by_cases h : n < 0 ∨ 600 < n
  · exact ends_out n c w hT h hlo hhi
  obtain ⟨N, rfl⟩ := Int.eq_ofNat_of_zero_le (show 0 ≤ n by omega)
  have hN : N ≤ 600 := by omega
  clear h hlo hhi
  have hN' : ¬ (600 : Int) < (N : Int) := by omega
  have hcl := fillN_len N N c (Nat.le_refl N)
  have heq := dg_eq (fillN N N c)
  go_enter Tryd.func4, Tryd.ntmps4
  go_wp2_with (first
    | (go_at_call 8; ((with_reducible refine (sha_alive _ hT).mono ?_); rintro e w1 ⟨rfl, hx1⟩))
    | (refine wpList_make_u8 _ rfl (.tmp 15) (.tmp 15) rfl w1.heap.size N _ _ rfl rfl rfl rfl (by omega) (Nat.le_refl _) ?_; intro w2 own2 hg2; have hx2 : Ext w w2 := hx1.grown_ hg2 (fun _ e => by cases e); clear hg2))
  have hg0 : w.heap.size ≤ w1.heap.size := hx1.size
  generalize w1.heap.size = g at own2 hg0 ⊢
  have own3 : Own g w2 (.slice (some ⟨g, 0, none⟩) N N) (fillN N 0 c) := own2
  clear own2 hx1
  have e1 : decide ((N : Int) < 0) = false := by simp
  have e2 : decide ((600 : Int) < (N : Int)) = false := by simp; omega
  rw [e1, e2, Bool.or_false]
  clear e1 e2
  go_loopw [19] (fun i wr => ∃ k : Nat, k ≤ N ∧ i = .int .i64 k ∧ Own g wr (.slice (some ⟨g, 0, none⟩) N N) (fillN N k c) ∧ Ext w wr) (fun i _ => N - (intOf i).toNat)
  case atStart => exact ⟨0, by omega, rfl, own3, hx2⟩
  case round =>
    clear own3 hx2
    obtain ⟨k, hk, rfl, own, hx⟩ := hrel
    by_cases hlt : k < N
    · have hl := fillN_len N k c hk
      have hfr := own.frozen_at hl k
      obtain ⟨u, hcell⟩ : ∃ u, wr.cell? ⟨g, k, none⟩ = some u := ⟨_, own.cell_at hl (k := k) (by omega)⟩
      have hst := own.set_at hl k c
      rw [fillN_set N k c hlt] at hst
      have Hst := Lib.hid hst
      clear hst hl
      go_wp2
      go_roundw
      case rel => exact ⟨k + 1, by omega, by go_num, Hst.out.1, hx.set hg0 _⟩
      case measure => simp [intOf]; omega
    · obtain rfl : k = N := by omega
      have hc3 := Own.cells own
      go_wp2_with (first
        | (go_at_call 9; ((with_reducible refine (shaOf_calls _ 1 1 [fillN k k c] (fillN k k c) _ (BSs.one (Cells.lit rfl [_] _ _) (BS.of hcl (Nat.le_refl _) (hc3.ext ((Ext.refl _).alloc _)))) rfl (by simp) (by decide) (by omega) (hT.ext (hx.alloc _))).mono ?_); rintro e w4 ⟨rfl, hx4⟩; have hxx4 := (hx.alloc _).trans hx4; have hxy4 := ((Ext.refl _).alloc _).trans hx4))
        | (go_at_call 10; ((with_reducible refine (refOf_calls _ _ _ (fillN k k c) _ (hc3.ext hxy4) hcl (by omega)).mono ?_); rintro e w5 ⟨rfl, hx5⟩; have hxx5 := hxx4.trans hx5)))
      go_ret
      exact ⟨rfl, hxx5⟩
end Go.Proofs.YtfjponmpjofbkaaDoor
