/- FnvParts: sums that part go on parting: the walk of the law. -/
import Derived.Test.YtjnpmleehapkcaaFnv
namespace Go.Proofs.Ytjnpmleehapkcaa
open Go.RowKit
set_option linter.unusedVariables false

theorem natb {w : Nat} (a b : BitVec w) : (((a.toNat : Int) == (b.toNat : Int)) : Bool) = decide (a = b) := by
  rw [Bool.eq_iff_iff]
  simp only [beq_iff_eq, decide_eq_true_eq]
  exact ⟨fun h => BitVec.eq_of_toNat_eq (by omega), fun h => by rw [h]⟩
theorem natb8 (a b : UInt8) : (((a.toNat : Int) == (b.toNat : Int)) : Bool) = decide (a = b) := by
  rw [Bool.eq_iff_iff]
  simp only [beq_iff_eq, decide_eq_true_eq]
  exact ⟨fun h => UInt8.toNat_inj.1 (by omega), fun h => by rw [h]⟩

theorem parts_calls (x y : BitVec 64) (b : Option Addr) (cb : Nat) (bs : List UInt8) (c d : UInt8) (w : World) (hb : Cells w b (bv bs)) (hlb : bs.length ≤ 140737488351232) :
    Calls Try.prog 4 #[.int .u64 x.toNat, .int .u64 y.toNat, .slice b bs.length cb, .int .u8 c.toNat, .int .u8 d.toNat] w fun e w' => e = .returned (.bool true) ∧ Ext w w' := by
  have E1 : ((((more x bs).toNat : Int) == ((more y bs).toNat : Int)) : Bool) = ((x.toNat : Int) == (y.toNat : Int)) := by
    rw [natb, natb, decide_eq_decide]
    exact ⟨more_inj bs, fun h => by rw [h]⟩
  have E2 : ((((more x [c]).toNat : Int) == ((more x [d]).toNat : Int)) : Bool) = ((c.toNat : Int) == (d.toNat : Int)) := by
    rw [natb, natb8, decide_eq_decide]
    exact ⟨fun h => step_right h, fun h => by rw [h]⟩
  by_cases h1 : 8192 < bs.length
  · go_enter Try.func4, Try.ntmps4
    go_wp2_with (go_at_call 8; refine (fnv_alive _).mono ?_; rintro e w1 ⟨rfl, hx1⟩)
    go_ret
    exact ⟨rfl, hx1⟩
  have hly : bs.length ≤ maxLen := by simp only [maxLen]; omega
  have h1l : 1 ≤ maxLen := by simp only [maxLen]; omega
  go_enter Try.func4, Try.ntmps4
  go_wp2_with (first
    | (go_at_call 8; refine (fnv_alive _).mono ?_; rintro e w1 ⟨rfl, hx1⟩; have hb1 := hb.ext hx1)
    | (go_at_call 10; (with_reducible refine (more_calls _ _ _ _ _ _ hb1 rfl hly).mono ?_); rintro e w' ⟨rfl, rfl⟩)
    | (go_at_call 10; (with_reducible refine (more_calls _ _ 1 1 [c] _ (Cells.new w1 #[.int .u8 c.toNat] _ _) rfl h1l).mono ?_); rintro e w' ⟨rfl, rfl⟩)
    | (go_at_call 10; (with_reducible refine (more_calls _ _ 1 1 [d] _ (Cells.new_at (by simp) #[.int .u8 d.toNat] _ _) rfl h1l).mono ?_); rintro e w' ⟨rfl, rfl⟩))
  go_ret
  exact ⟨rfl, (hx1.alloc _).alloc _⟩
end Go.Proofs.Ytjnpmleehapkcaa
