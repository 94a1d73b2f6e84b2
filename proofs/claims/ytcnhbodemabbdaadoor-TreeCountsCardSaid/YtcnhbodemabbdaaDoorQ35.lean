/- A new reader of bytes. -/
import Derived.Test.YtcnhbodemabbdaaDoorQ34
namespace Go.Proofs.YtcnhbodemabbdaaDoor
open Go.RowKit
set_option linter.unusedVariables false

theorem read_calls (A : Option Addr) (n c : Nat) (bs : List UInt8) (w : World) (hb : Cells w A (bv bs)) (hn : bs.length = n) (hl : n ≤ 140737488351232) :
    Calls Tryd.prog 59 #[.slice A n c] w fun e w' => ∃ g, e = .returned (.pointer (some ⟨g, 0, none⟩)) ∧ w.heap.size ≤ g ∧ Rdr w' g ⟨bs, false⟩ ∧ Ext w w' := by
  subst hn
  go_enter Tryd.func59, Tryd.ntmps59
  go_wp2_with (at_builtin; refine wpList_append_u8 _ rfl (.const (.slice none 0 0)) (.tmp 3) rfl w.heap.size _ [] rfl (Own.nil _ _) A bs.length c bs rfl rfl hb (by simp; omega) (Nat.le_refl _) ?_; intro v1 w1 hown hg _; have hx := (Own.nil w.heap.size w).grows (Ext.refl _) hg; rw [List.nil_append] at hown; obtain ⟨A1, c1, hv1, hl1, hm1, hc1⟩ := hown.form; subst hv1)
  go_ret
  refine ⟨w1.heap.size, rfl, hx.size, ⟨A1, c1, Blk.new w1 _ _, hl1, hl, hc1.ext ((Ext.refl _).alloc _), fun x hx => ?_⟩, hx.alloc _⟩
  have := hown.ne x hx
  omega
end Go.Proofs.YtcnhbodemabbdaaDoor
