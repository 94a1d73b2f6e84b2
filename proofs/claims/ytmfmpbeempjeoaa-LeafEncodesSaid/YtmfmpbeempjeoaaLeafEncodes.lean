/- LeafEncodes: Good, Size and Encode answer what the document says: the walk of the law. -/
import Derived.Test.YtmfmpbeempjeoaaLeafEnc
import Derived.Test.YtmfmpbeempjeoaaLeafRGood
import Derived.Test.YtmfmpbeempjeoaaLeafRBytes
import Derived.Test.YtmfmpbeempjeoaaLeafGreat
namespace Go.Proofs.Ytmfmpbeempjeoaa
open Go.RowKit
set_option linter.unusedVariables false

/-- The four cells of a boxed node. -/
theorem node_cells {w : World} {g : Nat} {l : Bool} {ka va da : Option Addr} {K V D kc vc dc : Nat} (h : Blk w g 25 #[.bool l, .slice ka K kc, .slice va V vc, .slice da D dc]) :
    w.cell? ⟨g, 0, none⟩ = some (.bool l) ∧ w.cell? ⟨g, 1, none⟩ = some (.slice ka K kc) ∧ w.cell? ⟨g, 2, none⟩ = some (.slice va V vc) ∧ w.cell? ⟨g, 3, none⟩ = some (.slice da D dc) :=
  ⟨h.cell 0, h.cell 1, h.cell 2, h.cell 3⟩

def ndLeaf : Nd := ⟨true, [], [], []⟩
def ndNone : Nd := ⟨false, [], [], []⟩
theorem ndAt_nil (w : World) (l : Bool) : NdAt w ⟨l, [], [], []⟩ none none none 0 0 0 0 0 0 :=
  ⟨rfl, rfl, rfl, Nat.le_refl _, Nat.le_refl _, Nat.le_refl _, Cells.nil _ _, Cells.nil _ _, Cells.nil _ _, by decide, by decide, by decide, by intro s h; simp at h, by intro s h; simp at h, by intro s h; simp at h⟩
theorem ndLeaf_good : ndLeaf.good = true := by decide
theorem ndNone_good : ndNone.good = false := by decide
theorem ndLeaf_bytes : ndLeaf.bytes = [1] := by
  have e : uintB 1 = [1] := uintB_lt (by decide)
  show uintB 1 ++ [] ++ [] = [1]
  rw [e]; rfl
theorem ndNone_bytes : ndNone.bytes.length ≤ 1048576 := by
  have e : uintB 0 = [0] := uintB_lt (by decide)
  show (uintB 0 ++ [] ++ []).length ≤ 1048576
  rw [e]; decide

theorem one_str : ((bstr [1]).toList == [1]) = true := by kernel_rfl
theorem one_str' : (bstr [1]).toList = [1] := by kernel_rfl
theorem leaf_alive (w : World) : Calls Try.prog 8 #[] w fun e w' => e = .returned (.bool true) ∧ Ext w w' := by
  have o1 := one_str'
  go_enter Try.func8, Try.ntmps8
  go_wp2_with (first
    | (go_at_call 10; ((with_reducible refine (encode_ok ndLeaf true none none none 0 0 0 0 0 0 _ (ndAt_nil _ true) rfl ndLeaf_good (by rw [ndLeaf_bytes]; decide) (by rw [ndLeaf_bytes]; decide)).mono ?_); rintro e w1 ⟨⟨v, rfl, own⟩, hx1⟩; rw [ndLeaf_bytes] at own; obtain ⟨A5, c5, hv5, hl5, hm5, hc5⟩ := Own.form_at own rfl; subst hv5; have hcv := conv_str (P := Try.prog) Try.underlying28 Try.underlying5 Try.underlying9 (c := c5) (bs := [1]) (n := 1) rfl hc5))
    | (go_at_call 13; ((with_reducible refine (size_calls' ndNone false none none none 0 0 0 0 0 0 _ (ndAt_nil _ false) rfl ndNone_bytes).mono ?_); rintro e w2 ⟨rfl, hx2⟩; rw [show ndNone.size = -1 from by unfold Nd.size; rw [ndNone_good]; rfl])))
  go_ret
  exact ⟨rfl, hx1.trans hx2⟩

set_option maxHeartbeats 4000000 in
theorem encodes_great (n : Nd) (ka va da : Option Addr) (K V D kc vc dc : Nat) (w : World) (h : NdAt w n ka va da K V D kc vc dc) (hg : 8192 < n.tot) :
    Calls Try.prog 3 #[nda n.leaf ka K kc va V vc da D dc] w fun e w' => e = .returned (.bool true) ∧ Ext w w' := by
  have htot : decide (8192 < n.tot) = true := decide_eq_true hg
  have Hh := Lib.hid h
  clear h
  go_enter Try.func3, Try.ntmps3
  have hbox : Blk (w.alloc (.cells #[.bool n.leaf, .slice ka K kc, .slice va V vc, .slice da D dc] 25)) w.heap.size 25 #[.bool n.leaf, .slice ka K kc, .slice va V vc, .slice da D dc] := Blk.new w _ _
  have hx0 : Ext w (w.alloc (.cells #[.bool n.leaf, .slice ka K kc, .slice va V vc, .slice da D dc] 25)) := (Ext.refl _).alloc _
  have Hbox := Lib.hid hbox
  clear hbox
  go_wp2_with (first
    | (go_at_call 8; ((with_reducible refine (leaf_alive _).mono ?_); rintro e w1 ⟨rfl, hx1⟩; have hy1 := hx1; obtain ⟨c0, c1, c2, c3⟩ := node_cells (Hbox.out.ext hy1)))
    | (go_at_call 9; ((with_reducible refine (great_calls n n.leaf 8192 8192 rfl ka va da K V D kc vc dc _ (Hh.out.ext (hx0.trans hy1)) (by decide)).mono ?_); rintro e w2 ⟨rfl, hx2⟩; have hy2 := hy1.trans hx2; clear c0 c1 c2 c3; obtain ⟨c0, c1, c2, c3⟩ := node_cells (Hbox.out.ext hy2); rw [htot])))
  go_ret
  exact ⟨rfl, hx0.trans hy2⟩

set_option maxHeartbeats 4000000 in
theorem encodes_bad (n : Nd) (ka va da : Option Addr) (K V D kc vc dc : Nat) (w : World) (h : NdAt w n ka va da K V D kc vc dc) (ht : n.tot ≤ 8192) (hg : n.good = false) :
    Calls Try.prog 3 #[nda n.leaf ka K kc va V vc da D dc] w fun e w' => e = .returned (.bool true) ∧ Ext w w' := by
  have htot : decide (8192 < n.tot) = false := decide_eq_false (by omega)
  have HB := Lib.hid (bytes_bound h ht)
  have hsz : n.size = -1 := by unfold Nd.size; rw [hg]; rfl
  have Hh := Lib.hid h
  clear h
  go_enter Try.func3, Try.ntmps3
  have hbox : Blk (w.alloc (.cells #[.bool n.leaf, .slice ka K kc, .slice va V vc, .slice da D dc] 25)) w.heap.size 25 #[.bool n.leaf, .slice ka K kc, .slice va V vc, .slice da D dc] := Blk.new w _ _
  have hx0 : Ext w (w.alloc (.cells #[.bool n.leaf, .slice ka K kc, .slice va V vc, .slice da D dc] 25)) := (Ext.refl _).alloc _
  have Hbox := Lib.hid hbox
  clear hbox
  go_wp2_with (first
    | (go_at_call 8; ((with_reducible refine (leaf_alive _).mono ?_); rintro e w1 ⟨rfl, hx1⟩; have hy1 := hx1; obtain ⟨c0, c1, c2, c3⟩ := node_cells (Hbox.out.ext hy1)))
    | (go_at_call 9; ((with_reducible refine (great_calls n n.leaf 8192 8192 rfl ka va da K V D kc vc dc _ (Hh.out.ext (hx0.trans hy1)) (by decide)).mono ?_); rintro e w2 ⟨rfl, hx2⟩; have hy2 := hy1.trans hx2; clear c0 c1 c2 c3; obtain ⟨c0, c1, c2, c3⟩ := node_cells (Hbox.out.ext hy2); rw [htot]))
    | (go_at_call 10; ((with_reducible refine (encode_bad n n.leaf ka va da K V D kc vc dc _ (Hh.out.ext (hx0.trans hy2)) rfl hg).mono ?_); rintro e w3 ⟨rfl, hx3⟩; have hy3 := hy2.trans hx3; clear c0 c1 c2 c3; obtain ⟨c0, c1, c2, c3⟩ := node_cells (Hbox.out.ext hy3)))
    | (go_at_call 11; ((with_reducible refine (refGood_calls n ka va da K V D kc vc dc _ (Hh.out.ext (hx0.trans hy3))).mono ?_); rintro e w4 ⟨rfl, hx4⟩; have hy4 := hy3.trans hx4; clear c0 c1 c2 c3; obtain ⟨c0, c1, c2, c3⟩ := node_cells (Hbox.out.ext hy4); rw [hg]))
    | (go_at_call 12; ((with_reducible refine (good_calls n ka va da K V D kc vc dc _ (Hh.out.ext (hx0.trans hy4))).mono ?_); rintro e w5 ⟨rfl, hx5⟩; have hy5 := hy4.trans hx5; clear c0 c1 c2 c3; obtain ⟨c0, c1, c2, c3⟩ := node_cells (Hbox.out.ext hy5); rw [hg]))
    | (go_at_call 13; ((with_reducible refine (size_calls' n n.leaf ka va da K V D kc vc dc _ (Hh.out.ext (hx0.trans hy5)) rfl HB.out).mono ?_); rintro e w6 ⟨rfl, hx6⟩; have hy6 := hy5.trans hx6; clear c0 c1 c2 c3; obtain ⟨c0, c1, c2, c3⟩ := node_cells (Hbox.out.ext hy6); rw [hsz])))
  go_ret
  exact ⟨rfl, hx0.trans hy6⟩

set_option maxHeartbeats 4000000 in
theorem encodes_long (n : Nd) (ka va da : Option Addr) (K V D kc vc dc : Nat) (w : World) (h : NdAt w n ka va da K V D kc vc dc) (ht : n.tot ≤ 8192) (hg : n.good = true) (hbig : 512 < n.bytes.length) :
    Calls Try.prog 3 #[nda n.leaf ka K kc va V vc da D dc] w fun e w' => e = .returned (.bool true) ∧ Ext w w' := by
  have htot : decide (8192 < n.tot) = false := decide_eq_false (by omega)
  have HB := Lib.hid (bytes_bound h ht)
  obtain ⟨L, hL⟩ : ∃ L, n.bytes.length = L := ⟨_, rfl⟩
  have hsz : n.size = (L : Int) := by unfold Nd.size; rw [hg, if_pos rfl, hL]
  have hbl : (bstr n.bytes).size = L := by rw [bstr_size, hL]
  have HLs := Lib.hid hL
  have hvk : n.leaf = true → V = K := good_leaf hg h.hk h.hv
  have hkid := good_kids hg
  have hbig2 : (512 : Int) < (L : Int) := by omega
  clear hL
  have Hh := Lib.hid h
  clear h
  go_enter Try.func3, Try.ntmps3
  have hbox : Blk (w.alloc (.cells #[.bool n.leaf, .slice ka K kc, .slice va V vc, .slice da D dc] 25)) w.heap.size 25 #[.bool n.leaf, .slice ka K kc, .slice va V vc, .slice da D dc] := Blk.new w _ _
  have hx0 : Ext w (w.alloc (.cells #[.bool n.leaf, .slice ka K kc, .slice va V vc, .slice da D dc] 25)) := (Ext.refl _).alloc _
  have Hbox := Lib.hid hbox
  clear hbox
  go_wp2_with (first
    | (go_at_call 8; ((with_reducible refine (leaf_alive _).mono ?_); rintro e w1 ⟨rfl, hx1⟩; have hy1 := hx1; obtain ⟨c0, c1, c2, c3⟩ := node_cells (Hbox.out.ext hy1)))
    | (go_at_call 9; ((with_reducible refine (great_calls n n.leaf 8192 8192 rfl ka va da K V D kc vc dc _ (Hh.out.ext (hx0.trans hy1)) (by decide)).mono ?_); rintro e w2 ⟨rfl, hx2⟩; have hy2 := hy1.trans hx2; clear c0 c1 c2 c3; obtain ⟨c0, c1, c2, c3⟩ := node_cells (Hbox.out.ext hy2); rw [htot]))
    | (go_at_call 10; ((with_reducible refine (encode_long n n.leaf ka va da K V D kc vc dc _ (Hh.out.ext (hx0.trans hy2)) rfl hg HB.out hbig).mono ?_); rintro e w3 ⟨rfl, hx3⟩; have hy3 := hy2.trans hx3; clear c0 c1 c2 c3; obtain ⟨c0, c1, c2, c3⟩ := node_cells (Hbox.out.ext hy3)))
    | (go_at_call 11; ((with_reducible refine (refGood_calls n ka va da K V D kc vc dc _ (Hh.out.ext (hx0.trans hy3))).mono ?_); rintro e w4 ⟨rfl, hx4⟩; have hy4 := hy3.trans hx4; clear c0 c1 c2 c3; obtain ⟨c0, c1, c2, c3⟩ := node_cells (Hbox.out.ext hy4); rw [hg]))
    | (go_at_call 14; ((with_reducible refine (rbytes_calls n n.leaf ka va da K V D kc vc dc _ (Hh.out.ext (hx0.trans hy4)) rfl hvk HB.out hkid).mono ?_); rintro e w5 ⟨rfl, hx5⟩; have hy5 := hy4.trans hx5; clear c0 c1 c2 c3; obtain ⟨c0, c1, c2, c3⟩ := node_cells (Hbox.out.ext hy5)))
    | (go_at_call 12; ((with_reducible refine (good_calls n ka va da K V D kc vc dc _ (Hh.out.ext (hx0.trans hy5))).mono ?_); rintro e w6 ⟨rfl, hx6⟩; have hy6 := hy5.trans hx6; clear c0 c1 c2 c3; obtain ⟨c0, c1, c2, c3⟩ := node_cells (Hbox.out.ext hy6); rw [hg]))
    | (go_at_call 13; ((with_reducible refine (size_calls' n n.leaf ka va da K V D kc vc dc _ (Hh.out.ext (hx0.trans hy6)) rfl HB.out).mono ?_); rintro e w7 ⟨rfl, hx7⟩; have hy7 := hy6.trans hx7; clear c0 c1 c2 c3; obtain ⟨c0, c1, c2, c3⟩ := node_cells (Hbox.out.ext hy7); rw [hsz])))
  go_ret
  exact ⟨rfl, hx0.trans hy7⟩

set_option maxHeartbeats 4000000 in
theorem encodes_ok (n : Nd) (ka va da : Option Addr) (K V D kc vc dc : Nat) (w : World) (h : NdAt w n ka va da K V D kc vc dc) (ht : n.tot ≤ 8192) (hg : n.good = true) (hbig : ¬ 512 < n.bytes.length) :
    Calls Try.prog 3 #[nda n.leaf ka K kc va V vc da D dc] w fun e w' => e = .returned (.bool true) ∧ Ext w w' := by
  have htot : decide (8192 < n.tot) = false := decide_eq_false (by omega)
  have HB := Lib.hid (bytes_bound h ht)
  obtain ⟨L, hL⟩ : ∃ L, n.bytes.length = L := ⟨_, rfl⟩
  have hsz : n.size = (L : Int) := by unfold Nd.size; rw [hg, if_pos rfl, hL]
  have hbl : (bstr n.bytes).size = L := by rw [bstr_size, hL]
  have HLs := Lib.hid hL
  have hvk : n.leaf = true → V = K := good_leaf hg h.hk h.hv
  have hkid := good_kids hg
  have hbig2 : ¬ (512 : Int) < (L : Int) := by omega
  clear hL
  have Hh := Lib.hid h
  clear h
  go_enter Try.func3, Try.ntmps3
  have hbox : Blk (w.alloc (.cells #[.bool n.leaf, .slice ka K kc, .slice va V vc, .slice da D dc] 25)) w.heap.size 25 #[.bool n.leaf, .slice ka K kc, .slice va V vc, .slice da D dc] := Blk.new w _ _
  have hx0 : Ext w (w.alloc (.cells #[.bool n.leaf, .slice ka K kc, .slice va V vc, .slice da D dc] 25)) := (Ext.refl _).alloc _
  have Hbox := Lib.hid hbox
  clear hbox
  go_wp2_with (first
    | (go_at_call 8; ((with_reducible refine (leaf_alive _).mono ?_); rintro e w1 ⟨rfl, hx1⟩; have hy1 := hx1; obtain ⟨c0, c1, c2, c3⟩ := node_cells (Hbox.out.ext hy1)))
    | (go_at_call 9; ((with_reducible refine (great_calls n n.leaf 8192 8192 rfl ka va da K V D kc vc dc _ (Hh.out.ext (hx0.trans hy1)) (by decide)).mono ?_); rintro e w2 ⟨rfl, hx2⟩; have hy2 := hy1.trans hx2; clear c0 c1 c2 c3; obtain ⟨c0, c1, c2, c3⟩ := node_cells (Hbox.out.ext hy2); rw [htot]))
    | (go_at_call 10; ((with_reducible refine (encode_ok n n.leaf ka va da K V D kc vc dc _ (Hh.out.ext (hx0.trans hy2)) rfl hg HB.out hbig).mono ?_); rintro e w3 ⟨⟨v, rfl, own⟩, hx3⟩; have hy3 := hy2.trans hx3; clear c0 c1 c2 c3; obtain ⟨c0, c1, c2, c3⟩ := node_cells (Hbox.out.ext hy3); obtain ⟨A5, c5, hv5, hl5, hm5, hc5⟩ := Own.form_at own HLs.out; subst hv5; clear own))
    | (go_at_call 11; ((with_reducible refine (refGood_calls n ka va da K V D kc vc dc _ (Hh.out.ext (hx0.trans hy3))).mono ?_); rintro e w4 ⟨rfl, hx4⟩; have hy4 := hy3.trans hx4; clear c0 c1 c2 c3; obtain ⟨c0, c1, c2, c3⟩ := node_cells (Hbox.out.ext hy4); rw [hg]; have hd4 := hc5.ext hx4))
    | (go_at_call 14; ((with_reducible refine (rbytes_calls n n.leaf ka va da K V D kc vc dc _ (Hh.out.ext (hx0.trans hy4)) rfl hvk HB.out hkid).mono ?_); rintro e w5 ⟨rfl, hx5⟩; have hy5 := hy4.trans hx5; clear c0 c1 c2 c3; obtain ⟨c0, c1, c2, c3⟩ := node_cells (Hbox.out.ext hy5); have hd5 := hd4.ext hx5))
    | (go_at_call 12; ((with_reducible refine (good_calls n ka va da K V D kc vc dc _ (Hh.out.ext (hx0.trans hy5))).mono ?_); rintro e w6 ⟨rfl, hx6⟩; have hy6 := hy5.trans hx6; clear c0 c1 c2 c3; obtain ⟨c0, c1, c2, c3⟩ := node_cells (Hbox.out.ext hy6); rw [hg]; have hd6 := hd5.ext hx6))
    | (go_at_call 13; ((with_reducible refine (size_calls' n n.leaf ka va da K V D kc vc dc _ (Hh.out.ext (hx0.trans hy6)) rfl HB.out).mono ?_); rintro e w7 ⟨rfl, hx7⟩; have hy7 := hy6.trans hx7; clear c0 c1 c2 c3; obtain ⟨c0, c1, c2, c3⟩ := node_cells (Hbox.out.ext hy7); rw [hsz]; have hcv := conv_str (P := Try.prog) Try.underlying28 Try.underlying5 Try.underlying9 (c := c5) HLs.out (hd6.ext hx7))))
  go_ret
  exact ⟨rfl, hx0.trans hy7⟩

theorem encodes_calls (n : Nd) (ka va da : Option Addr) (K V D kc vc dc : Nat) (w : World) (h : NdAt w n ka va da K V D kc vc dc) :
    Calls Try.prog 3 #[nda n.leaf ka K kc va V vc da D dc] w fun e w' => e = .returned (.bool true) ∧ Ext w w' := by
  by_cases ht : 8192 < n.tot
  · exact encodes_great n ka va da K V D kc vc dc w h ht
  cases hg : n.good with
  | false => exact encodes_bad n ka va da K V D kc vc dc w h (by omega) hg
  | true =>
    by_cases hb : 512 < n.bytes.length
    · exact encodes_long n ka va da K V D kc vc dc w h (by omega) hg hb
    · exact encodes_ok n ka va da K V D kc vc dc w h (by omega) hg hb
end Go.Proofs.Ytmfmpbeempjeoaa
