/- The walk of the laws' own function of layer 7: alive. -/
import Derived.Test.YtmfmpbeempjeoaaLeafEnc
import Derived.Test.YtmfmpbeempjeoaaLeafRGood
import Derived.Test.YtmfmpbeempjeoaaLeafRBytes
import Derived.Test.YtmfmpbeempjeoaaLeafGreat
namespace Go.Proofs.Ytmfmpbeempjeoaa
open Go.RowKit
set_option linter.unusedVariables false

/-- The four cells of a boxed node. -/
theorem node_cells {w : World} {g : Nat} {l : Bool} {ka va da : Option Addr} {K V D kc vc dc : Nat} (h : Blk w g 25 #[.bool l, .slice ka K kc, .slice va V vc, .slice da D dc]) :
    w.cell? ⟨g, 0, none⟩ = some (.bool l) ∧ w.cell? ⟨g, 1, none⟩ = some (.slice ka K kc) ∧ w.cell? ⟨g, 2, none⟩ = some (.slice va V vc) ∧ w.cell? ⟨g, 3, none⟩ = some (.slice da D dc) :=
  ⟨h.cell 0, h.cell 1, h.cell 2, h.cell 3⟩

def ndLeaf : Nd := ⟨true, [], [], []⟩
def ndNone : Nd := ⟨false, [], [], []⟩
theorem ndAt_nil (w : World) (l : Bool) : NdAt w ⟨l, [], [], []⟩ none none none 0 0 0 0 0 0 :=
  ⟨rfl, rfl, rfl, Nat.le_refl _, Nat.le_refl _, Nat.le_refl _, Cells.nil _ _, Cells.nil _ _, Cells.nil _ _, by decide, by decide, by decide, by intro s h; simp at h, by intro s h; simp at h, by intro s h; simp at h⟩
theorem ndLeaf_good : ndLeaf.good = true := by decide
theorem ndNone_good : ndNone.good = false := by decide
theorem ndLeaf_bytes : ndLeaf.bytes = [1] := by
  have e : uintB 1 = [1] := uintB_lt (by decide)
  show uintB 1 ++ [] ++ [] = [1]
  rw [e]; rfl
theorem ndNone_bytes : ndNone.bytes.length ≤ 1048576 := by
  have e : uintB 0 = [0] := uintB_lt (by decide)
  show (uintB 0 ++ [] ++ []).length ≤ 1048576
  rw [e]; decide

theorem one_str : ((bstr [1]).toList == [1]) = true := by kernel_rfl
theorem one_str' : (bstr [1]).toList = [1] := by kernel_rfl
theorem leaf_alive (w : World) : Calls Try.prog 8 #[] w fun e w' => e = .returned (.bool true) ∧ Ext w w' := by
  have o1 := one_str'
  go_enter Try.func8, Try.ntmps8
  go_wp2_with (first
    | (go_at_call 10; ((with_reducible refine (encode_ok ndLeaf true none none none 0 0 0 0 0 0 _ (ndAt_nil _ true) rfl ndLeaf_good (by rw [ndLeaf_bytes]; decide) (by rw [ndLeaf_bytes]; decide)).mono ?_); rintro e w1 ⟨⟨v, rfl, own⟩, hx1⟩; rw [ndLeaf_bytes] at own; obtain ⟨A5, c5, hv5, hl5, hm5, hc5⟩ := Own.form_at own rfl; subst hv5; have hcv := conv_str (P := Try.prog) Try.underlying28 Try.underlying5 Try.underlying9 (c := c5) (bs := [1]) (n := 1) rfl hc5))
    | (go_at_call 13; ((with_reducible refine (size_calls' ndNone false none none none 0 0 0 0 0 0 _ (ndAt_nil _ false) rfl ndNone_bytes).mono ?_); rintro e w2 ⟨rfl, hx2⟩; rw [show ndNone.size = -1 from by unfold Nd.size; rw [ndNone_good]; rfl])))
  go_ret
  exact ⟨rfl, hx1.trans hx2⟩

theorem good_calls_l (n : Nd) (l : Bool) (hl : n.leaf = l) (ka va da : Option Addr) (K V D kc vc dc : Nat) (w : World) (h : NdAt w n ka va da K V D kc vc dc) :
    Calls Try.prog 12 #[nda l ka K kc va V vc da D dc] w fun e w' => e = .returned (.bool n.good) ∧ Ext w w' := by
  subst hl
  exact good_calls n ka va da K V D kc vc dc w h
end Go.Proofs.Ytmfmpbeempjeoaa
