/- ObjectKeeps: what is handed in stays; what is answered is new memory: the walk of the law. Printed by wip/mkobjkeeps.py. -/
import Derived.Test.YthepbcomeimcnaaObjSameC
import Derived.Test.YthepbcomeimcnaaObjLaw
import Derived.Test.YthepbcomeimcnaaRowFacts
namespace Go.Proofs.Ythepbcomeimcnaa
open Go.RowKit
set_option linter.unusedVariables false

theorem lit0_prs (w : World) : (Instr.buildSlice 22 0 #[]).run Try.prog w = .ok (.slice (some ⟨w.heap.size, 0, none⟩) 0 0) (w.alloc (.cells #[] 43)) := by go_simp
theorem lit0_kds (w : World) : (Instr.buildSlice 23 0 #[]).run Try.prog w = .ok (.slice (some ⟨w.heap.size, 0, none⟩) 0 0) (w.alloc (.cells #[] 59)) := by go_simp
theorem alloc_tree (w : World) : (Instr.alloc 25 true (.tuple #[])).run Try.prog w = .ok (.pointer (some ⟨w.heap.size, 0, none⟩)) (w.alloc (.cells #[.slice none 0 0, .slice none 0 0] 25)) := by go_simp
theorem build_tree2 (w : World) (v1 v2 : Value) : ∀ A B : Option Addr, ∀ n c m d : Nat, v1 = .slice A n c → v2 = .slice B m d → (Instr.build 25 #[(0, v1), (1, v2)]).run Try.prog w = .ok (.agg #[v1, v2]) w := by
  rintro A B n c m d rfl rfl
  go_simp
theorem prI : (Try.prog.info? 43).map (fun i => (i.zero, i.size, i.bytes)) = some (some (.agg #[.string ByteArray.empty, .string ByteArray.empty]), 2, 32) := by kernel_rfl
theorem kdI : (Try.prog.info? 59).map (fun i => (i.zero, i.size, i.bytes)) = some (some (.agg (.string ByteArray.empty :: bv idNone).toArray), 34, 56) := by kernel_rfl
theorem idI : (Try.prog.info? 28).map (fun i => (i.zero, i.size, i.bytes)) = some (some (.agg (bv idNone).toArray), 33, 33) := by kernel_rfl
theorem own_cells {w : World} {B : Nat} {e : TypeId} {sz n c : Nat} {A : Option Addr} {xs : List Value} (h : w.ownsRow B e (sz + 1) (.slice A n c) n xs) : Cells w A xs := by
  obtain ⟨A', c', e1, _, _, hc⟩ := own_form h (by omega)
  cases e1
  exact hc
theorem flat_one {α : Type} (f : α → List Value) (h : ∀ x, ∀ v ∈ f x, v.oneCell' = true) (l : List α) : ∀ v ∈ (l.map f).flatten, v.oneCell' = true := by
  intro v hv
  simp only [List.mem_flatten, List.mem_map] at hv
  obtain ⟨_, ⟨x, _, rfl⟩, h2⟩ := hv
  exact h x v h2
theorem cmC_one (c : Cm) (qa : Option Addr) (Q qc : Nat) : ∀ v ∈ (cmC c qa Q qc).toArray.toList, v.oneCell' = true := by
  intro v hv
  rw [List.toList_toArray, cmC] at hv
  rcases List.mem_append.1 hv with h | h
  · exact bv_cells _ v h
  · simp only [List.mem_cons, List.not_mem_nil, or_false] at h
    rcases h with rfl | rfl | rfl <;> rfl
theorem cmC_set (c : Cm) (qa A : Option Addr) (Q qc n d : Nat) (hr : c.root.length = 33) : (cmC c qa Q qc).toArray.setIfInBounds 33 (.slice A n d) = (cmC c A n d).toArray := by
  have hl : (bv c.root).length = 33 := by rw [bv_len, hr]
  rw [List.setIfInBounds_toArray]
  congr 1
  unfold cmC
  rw [List.set_append_right _ _ (by omega), hl]
  rfl

set_option maxRecDepth 100000 in
set_option maxHeartbeats 16000000 in
theorem objectKeeps_calls (t : Tr) (pa ka : Option Addr) (P K pc kc : Nat) (c : Cm) (qa : Option Addr) (Q qc : Nat) (w : World) (h : TrAt w t pa ka P K pc kc) (hc : CmAt w c qa Q qc) :
    Calls Try.prog 3 #[tra pa P pc ka K kc, cma c qa Q qc] w fun e w' => e = .returned (.bool true) ∧ Ext w w' := by
  have Hh := Lib.hid h
  have Hc := Lib.hid hc
  have HR := Lib.hid hc.hr
  have hsn := hc.sn
  have hbq := hc.bq
  have hbk := h.bk
  have hbp := h.bp
  clear h hc
  go_enter Try.func3, Try.ntmps3
  obtain ⟨w0, hw0⟩ : ∃ w0, w0 = (w.alloc (.cells #[.slice pa P pc, .slice ka K kc] 25)).alloc (.cells (cmC c qa Q qc).toArray 31) := ⟨_, rfl⟩
  have hx0 : Ext w w0 := by rw [hw0]; exact ((Ext.refl _).alloc _).alloc _
  have Hbt := Lib.hid (show Blk w0 w.heap.size 25 #[.slice pa P pc, .slice ka K kc] from by rw [hw0]; exact (Blk.new w _ _).ext ((Ext.refl _).alloc _))
  have Hbc := Lib.hid (show Blk w0 (w.heap.size + 1) 31 (cmC c qa Q qc).toArray from by rw [hw0]; have e := Blk.new (w.alloc (.cells #[.slice pa P pc, .slice ka K kc] 25)) 31 (cmC c qa Q qc).toArray; simpa using e)
  have hlen : (cmC c qa Q qc).length = 36 := by simp [cmC, bv, HR.out]
  have HLEN : ∀ A d, (cmC c A Q d).length = 36 := fun A d => by simp [cmC, bv, HR.out]
  go_upto_region 1 with (fail)
  rw [← hw0]
  clear hw0
  have HT := Lib.hid (tree_cells Hbt.out)
  have HC := Lib.hid (show ∀ j v, (cmC c qa Q qc)[j]? = some v → w0.cell? ((⟨w.heap.size + 1, 0, none⟩ : Addr).add j) = some v from fun j v hv => by rw [add_new, Hbc.out.cell, ← Array.getElem?_toList, List.toList_toArray]; exact hv)
  obtain ⟨g, hg1⟩ : ∃ g, g = w.heap.size := ⟨_, rfl⟩
  obtain ⟨c0, c1⟩ := HT.out
  rw [← hg1] at c0 c1 ⊢
  rw [← hg1] at Hbt Hbc HC
  have Hg1 := Lib.hid hg1
  clear HT hg1
  go_upto_region 3 with (go_at_call 8; (with_reducible refine (obj_alive _).mono ?_); rintro e w1 ⟨rfl, hx1⟩; clear c0 c1; obtain ⟨c0, c1⟩ := tree_cells (Hbt.out.ext hx1); have hy1 := hx0.trans hx1)
  go_upto_region 5 with (first
    | (go_at_call 9; (with_reducible refine (greatTree_few t pa ka P K pc kc _ (Hh.out.ext hy1)).mono ?_); rintro e w2 ⟨⟨b, rfl, few2⟩, hx2⟩; have hx02 := hx1.trans hx2; have hy2 := hy1.trans hx2; cases b)
    | (refine wp_load_row_ 31 (.tmp 3) rfl ⟨g + 1, 0, none⟩ rfl (cmC c qa Q qc) _ (fun j v hv => hx02.cell (HC.out j v hv)) Try.underlying31 rfl (by rw [cm_info, hlen]) ?_)
    | (go_at_call 10; (with_reducible refine (greatCommit_few c qa Q qc _ (Hc.out.ext hy2)).mono ?_); rintro e w3 ⟨⟨b, rfl, few3⟩, hx3⟩; cases b))
  rotate_left
  · go_ret
    exact ⟨rfl, hy2.trans hx3⟩
  · go_ret
    exact ⟨rfl, hy2⟩
  obtain ⟨hP50, hK50⟩ := few2 (by trivial)
  obtain ⟨hQ50, hN1k⟩ := few3 (by trivial)
  clear few2 few3
  have hy3 := hy2.trans hx3
  have hx03 := hx02.trans hx3
  have Hbt3 := Lib.hid (Hbt.out.ext hx03)
  have Hh3 := Lib.hid (Hh.out.ext hy3)
  have Hc3 := Lib.hid (Hc.out.ext hy3)
  clear c0 c1
  refine wp_region_opsL (FInv [21, 22, 23, 24, 25, 26, 27, 28, 29, 5] _ w3.drew [⟨0, none, 21, .any (isLit w3.drew.heap.size 43 2) (isLit_mono _ _ _)⟩, ⟨1, none, 22, .val (.pointer (some ⟨g, 0, none⟩))⟩, ⟨2, none, 23, .val (.slice pa P pc)⟩, ⟨3, none, 24, .any (isRow w3.drew.heap.size 43 2 P (t.pairs.map prC).flatten) (isRow_mono _ _ _ _ _)⟩, ⟨4, none, 25, .any (isLit w3.drew.heap.size 59 34) (isLit_mono _ _ _)⟩, ⟨5, none, 26, .val (.pointer (some ⟨g, 1, none⟩))⟩, ⟨6, none, 27, .val (.slice ka K kc)⟩, ⟨7, none, 28, .any (isRow w3.drew.heap.size 59 34 K (t.kids.map kdC).flatten) (isRow_mono _ _ _ _ _)⟩, ⟨8, none, 29, .any (isTwo w3.drew.heap.size 43 2 P (t.pairs.map prC).flatten 59 34 K (t.kids.map kdC).flatten) (isTwo_mono _ _ _ _ _ _ _ _ _)⟩, ⟨9, none, 5, .any (isBox w3.drew.heap.size 25 #[.slice none 0 0, .slice none 0 0]) (isBox_mono _ _ _)⟩]) 10 (by kernel_rfl) (by kernel_rfl) rfl rfl FInv.start ?_ ?_
  · refine ⟨?o0, ?o1, ?o2, ?o3, ?o4, ?o5, ?o6, ?o7, ?o8, ?o9, trivial⟩
    case o0 =>
      intro f a u h hfi hp hq hcl
      exact h.lit0 rfl (wanted_none rfl) 21 rfl (by change 21 < 100; decide) rfl none 43 2 rfl (exec_buildSlice rfl (arr0 _)) (lit0_prs _)
    case o1 =>
      intro f a u h hfi hp hq hcl
      exact h.yieldG rfl (wanted_none rfl) 22 rfl (by change 22 < 100; decide) rfl _ rfl (run_of_sem rfl (by rw [(show a.eval (.tmp 2) = .pointer (some ⟨g, 0, none⟩) from h.agree.eval (by decide))]; exact f_tree0 _ _))
    case o2 =>
      intro f a u h hfi hp hq hcl
      have hyu : Ext w3 u := ((Ext.refl w3).drew).trans h.ext
      exact h.yieldG rfl (wanted_none rfl) 23 rfl (by change 23 < 100; decide) rfl _ rfl (run_of_sem rfl (by rw [h.at_ 1 rfl (pre_of hp 1 rfl)]; exact ld_pairs (tree_cells (Hbt3.out.ext hyu)).1))
    case o3 =>
      intro f a u h hfi hp hq hcl
      have hyu : Ext w3 u := ((Ext.refl w3).drew).trans h.ext
      exact h.appN rfl (wanted_none rfl) 24 rfl (by change 24 < 100; decide) rfl none 43 2 P (t.pairs.map prC).flatten rfl (.tmp 21) (.tmp 23) 22 rfl _ 32 Try.underlying22 prI rfl (by decide) (h.fact 0 rfl (pre_of hp 0 rfl) (fun d hd => by cases hd)) pa pc (h.at_ 2 rfl (pre_of hp 2 rfl)) (by rw [Row.len Hh3.out.cp, List.length_map, Hh3.out.hp]) (Row.cells (Hh3.out.ext hyu).cp (by decide)) (flat_one prC prC_one _) (by simp only [maxLen]; omega) (by omega)
    case o4 =>
      intro f a u h hfi hp hq hcl
      exact h.lit0 rfl (wanted_none rfl) 25 rfl (by change 25 < 100; decide) rfl none 59 34 rfl (exec_buildSlice rfl (arr0 _)) (lit0_kds _)
    case o5 =>
      intro f a u h hfi hp hq hcl
      exact h.yieldG rfl (wanted_none rfl) 26 rfl (by change 26 < 100; decide) rfl _ rfl (run_of_sem rfl (by rw [(show a.eval (.tmp 2) = .pointer (some ⟨g, 0, none⟩) from h.agree.eval (by decide))]; exact f_tree1 _ _))
    case o6 =>
      intro f a u h hfi hp hq hcl
      have hyu : Ext w3 u := ((Ext.refl w3).drew).trans h.ext
      exact h.yieldG rfl (wanted_none rfl) 27 rfl (by change 27 < 100; decide) rfl _ rfl (run_of_sem rfl (by rw [h.at_ 5 rfl (pre_of hp 5 rfl)]; exact ld_kids (tree_cells (Hbt3.out.ext hyu)).2))
    case o7 =>
      intro f a u h hfi hp hq hcl
      have hyu : Ext w3 u := ((Ext.refl w3).drew).trans h.ext
      exact h.appN rfl (wanted_none rfl) 28 rfl (by change 28 < 100; decide) rfl none 59 34 K (t.kids.map kdC).flatten rfl (.tmp 25) (.tmp 27) 23 rfl _ 56 Try.underlying23 kdI rfl (by decide) (h.fact 4 rfl (pre_of hp 4 rfl) (fun d hd => by cases hd)) ka kc (h.at_ 6 rfl (pre_of hp 6 rfl)) (by rw [Row.len Hh3.out.ck, List.length_map, Hh3.out.hk]) (Row.cells (Hh3.out.ext hyu).ck (by decide)) (flat_one kdC kdC_one _) (by simp only [maxLen]; omega) (by omega)
    case o8 =>
      intro f a u h hfi hp hq hcl
      have r1 : u.ownsRow _ _ _ (a.eval (.tmp 24)) _ _ := h.fact 3 rfl (pre_of hp 3 rfl) (fun d hd => by cases hd)
      have r2 : u.ownsRow _ _ _ (a.eval (.tmp 28)) _ _ := h.fact 7 rfl (pre_of hp 7 rfl) (fun d hd => by cases hd)
      obtain ⟨A1, d1, e1, _, _, _⟩ := own_form r1 (by decide)
      obtain ⟨A2, d2, e2, _, _, _⟩ := own_form r2 (by decide)
      exact h.valA rfl (wanted_none rfl) 29 rfl (by change 29 < 100; decide) rfl none _ _ rfl (s := Instr.build 25 #[(0, a.eval (.tmp 24)), (1, a.eval (.tmp 28))]) (exec_build rfl (by rw [arr2])) (build_tree2 _ _ _ _ _ _ _ _ _ e1 e2) (Ext.refl _) ⟨_, _, rfl, r1, r2⟩
    case o9 =>
      intro f a u h hfi hp hq hcl
      exact h.box rfl (wanted_none rfl) 5 rfl (by change 5 < 100; decide) rfl none 25 _ rfl rfl (alloc_tree _)
  · intro f a u h hall
    have hyu : Ext w3 u := ((Ext.refl w3).drew).trans h.ext
    obtain ⟨v1, v2, e29, r1, r2⟩ := h.fact 8 rfl (hall 8 (by decide)) (fun d hd => by cases hd)
    obtain ⟨g5, e5, hg5, hb5⟩ := h.fact 9 rfl (hall 9 (by decide)) (fun d hd => by cases hd)
    replace e29 : a.eval (.tmp 29) = _ := e29
    replace e5 : a.eval (.tmp 5) = _ := e5
    obtain ⟨A1, d1, rfl, l1, _, _⟩ := own_form r1 (by decide)
    obtain ⟨A2, d2, rfl, l2, _, _⟩ := own_form r2 (by decide)
    refine wpOp_of rfl rfl (wp_store_blk 25 (.tmp 5) (.tmp 29) rfl rfl g5 _ e5 e29 25 _ hb5 rfl (by kernel_rfl) (by simp [Value.oneCell']) ?_)
    intro w5 hb5' hg5'
    have hag := h.agree.out
    simp only [List.foldl_cons, List.foldl_nil, Act.put, List.setIfInBounds_toArray, List.set_cons_zero, List.set_cons_succ, e5, e29] at hag
    generalize a.eval (.tmp 21) = y21 at hag
    generalize a.eval (.tmp 22) = y22 at hag
    generalize a.eval (.tmp 23) = y23 at hag
    generalize a.eval (.tmp 24) = y24 at hag
    generalize a.eval (.tmp 25) = y25 at hag
    generalize a.eval (.tmp 26) = y26 at hag
    generalize a.eval (.tmp 27) = y27 at hag
    generalize a.eval (.tmp 28) = y28 at hag
    clear h hall
    subst hag
    have hx35 : Ext w3 w5 := hyu.grown_ hg5' (fun j hj => by cases hj; simpa using hg5)
    have row1 := World.ownsRow.kept r1 hg5' (own_ne_blk r1 hb5 (by decide))
    have row2 := World.ownsRow.kept r2 hg5' (own_ne_blk r2 hb5 (by decide))
    have HT5 := Lib.hid (show TrAt w5 t A1 A2 P K d1 d2 from ⟨Hh.out.hp, Hh.out.hk, l1, l2, Cells.row (own_cells row1) (fun cs hcs => by obtain ⟨p, _, rfl⟩ := List.mem_map.1 hcs; rfl) (by decide), Cells.row (own_cells row2) (fun cs hcs => by obtain ⟨p, hp, rfl⟩ := List.mem_map.1 hcs; exact kdC_len (Hh.out.sk p hp).2) (by decide), hbp, hbk, Hh.out.sp, Hh.out.sk⟩)
    have Hrow1 := Lib.hid row1
    have Hb5 := Lib.hid hb5'
    have HB1 := Lib.hid (show ∀ j, (Value.slice A1 P d1).ownBlock = some j → w3.heap.size ≤ j ∧ j < w5.heap.size from fun j hj => row1.lt j hj)
    have hy5 := hy3.trans hx35
    have hx05 := hx03.trans hx35
    clear e5 e29 r1 r2 row1 row2 hb5 hb5' hg5' hg5 l1 l2 hyu
    go_upto_region 7 with (first
      | (refine wpList_load_row_ rfl 31 (.tmp 3) rfl ⟨g + 1, 0, none⟩ rfl (cmC c qa Q qc) _ (fun j v hv => (hx05).cell (HC.out j v hv)) Try.underlying31 rfl (by rw [cm_info, hlen]) ?_)
      | (refine wpList_store_blk rfl 31 (.tmp 6) (.tmp 30) rfl rfl w5.heap.size (cmC c qa Q qc).toArray rfl rfl _ _ (Blk.new_at rfl _ _) (by rw [List.size_toArray, hlen]; rfl) (by kernel_rfl) (cmC_one _ _ _ _) ?_; intro w6 hb6 hg6; have hx56 : Ext w5 w6 := ((Ext.refl _).alloc _).grown_ hg6 (fun j hj => by cases hj; exact Nat.le_refl _)))
    obtain ⟨g6, hg6e⟩ : ∃ g6, g6 = w5.heap.size := ⟨_, rfl⟩
    rw [← hg6e] at hb6 ⊢
    have Hg6 := Lib.hid hg6e
    have Hb6 := Lib.hid hb6
    have hx06 := hx05.trans hx56
    have c1 := (cm_cells (Hbc.out.ext (hx06.alloc (.cells #[] 28))) HR.out).2.1
    clear hg6 hb6 hg6e
    have lit6 : (w6.alloc (.cells #[] 28)).ownsRow w6.heap.size 28 33 (.slice (some ⟨w6.heap.size, 0, none⟩) 0 0) 0 [] := World.ownsRow_made w6 #[] 0 (Nat.le_refl _) (by simp [maxLen]) (by simp)
    have Hc6 := Lib.hid (show Cells (w6.alloc (.cells #[] 28)) qa (c.parents.map bv).flatten from Row.cells (Hc.out.ext ((hx0.trans hx06).alloc _)).cq (by decide))
    go_upto_region 8 with (at_builtin; refine wpList_append_new rfl (.tmp 31) (.tmp 33) 29 rfl w6.heap.size 28 _ 33 33 Try.underlying29 idI rfl (by decide) w6.heap.size rfl lit6 qa Q qc (c.parents.map bv).flatten rfl (by rw [Row.len Hc.out.cq, List.length_map, Hc.out.hq]) Hc6.out (flat_one bv bv_cells _) (by simp only [maxLen]; omega) (by omega) (by simp) ?_; intro v7 w7 row3 hx7'; obtain ⟨A3, d3, rfl, l3, _, cr3⟩ := own_form row3 (by decide); have hx67 : Ext w6 w7 := ((Ext.refl _).alloc _).trans hx7'; have hf33 := (Hb6.out.ext hx67).frozen 33; have hc33 := (cm_cells (Hb6.out.ext hx67) HR.out).2.1)
    obtain ⟨w8, hw8⟩ : ∃ w8, w8 = w7.setCell ⟨g6, 33, none⟩ (.slice A3 Q d3) := ⟨_, rfl⟩
    have hg8 : w7.grownBy w8 (some g6) := by rw [hw8]; exact grown_set _ _ _ _
    have hb8 : Blk w8 g6 31 (cmC c A3 Q d3).toArray := by rw [hw8, ← cmC_set c qa A3 Q qc Q d3 HR.out]; exact (Hb6.out.ext hx67).set 33 _
    rw [← hw8]
    clear hw8 lit6 hf33 hc33
    have hx58 : Ext w5 w8 := (hx56.trans hx67).grown_ hg8 (fun j hj => by cases hj; rw [Hg6.out]; exact Nat.le_refl _)
    have row3' := World.ownsRow.kept row3 hg8 (own_ne_blk row3 (Hb6.out.ext hx67) (by decide))
    have hg68 : g6 < w6.heap.size := Hb6.out.lt
    have HC8 := Lib.hid (show CmAt w8 c A3 Q d3 from ⟨Hc.out.hr, Hc.out.hq, l3, Cells.row (own_cells row3') (fun cs hcs => by obtain ⟨p, hp, rfl⟩ := List.mem_map.1 hcs; rw [bv_len]; exact Hc.out.sq p hp) (by decide), hbq, Hc.out.sq, hsn, Hc.out.n0, Hc.out.n1⟩)
    have HB3 := Lib.hid (show ∀ j, (Value.slice A3 Q d3).ownBlock = some j → w6.heap.size ≤ j ∧ j < w8.heap.size from fun j hj => row3'.lt j hj)
    have Hrow3 := Lib.hid row3'
    have Hb8 := Lib.hid hb8
    clear row3 row3' hb8 hg8 c1 cr3 l3 hx7'
    obtain ⟨d0, d1'⟩ := tree_cells (Hb5.out.ext hx58)
    obtain ⟨BT, hBT⟩ : ∃ BT, BT = (if t.good then t.bytes else []) := ⟨_, rfl⟩
    obtain ⟨BC, hBC⟩ : ∃ BC, BC = (if c.good then c.bytes else []) := ⟨_, rfl⟩
    have HBT := Lib.hid hBT
    have HBC := Lib.hid hBC
    obtain ⟨eT, heT⟩ : ∃ eT : Int, eT = (if t.good then 0 else 1) := ⟨_, rfl⟩
    obtain ⟨eC, heC⟩ : ∃ eC : Int, eC = (if c.good then 0 else 1) := ⟨_, rfl⟩
    have HeT := Lib.hid heT
    have HeC := Lib.hid heC
    clear hBT hBC heT heC
    have hpt := fun w' h' => putTree_calls t A1 A2 P K d1 d2 w' h'
    have hpc := fun w' h' => putCommit_calls c A3 Q d3 w' h'
    simp only [← HBT.out, ← HBC.out, ← HeT.out, ← HeC.out] at hpt hpc
    have HPT := Lib.hid hpt
    have HPC := Lib.hid hpc
    clear hpt hpc
    have hz8 := hx58.size
    go_upto_region 9 with (go_at_call 11; (with_reducible refine (HPT.out _ (HT5.out.ext hx58)).mono ?_); rintro e w9 ⟨⟨v9, rfl, own9⟩, hx9⟩)
    clear d0 d1'
    have H8 := Lib.hid (show ∀ j v, (cmC c A3 Q d3)[j]? = some v → w8.cell? ((⟨g6, 0, none⟩ : Addr).add j) = some v from fun j v hv => by rw [add_new, Hb8.out.cell, ← Array.getElem?_toList, List.toList_toArray]; exact hv)
    go_upto_region 10 with (first
      | (refine wpList_load_row_ rfl 31 (.tmp 6) rfl ⟨g6, 0, none⟩ rfl (cmC c A3 Q d3) _ (fun j v hv => hx9.cell (H8.out j v hv)) Try.underlying31 rfl (by rw [cm_info, HLEN]) ?_)
      | (go_at_call 12; (with_reducible refine (HPC.out _ (HC8.out.ext hx9)).mono ?_); rintro e w10 ⟨⟨v10, rfl, own10⟩, hx10⟩))
    have hx8a := hx9.trans hx10
    have hx5a := hx58.trans hx8a
    have hx0a := hx05.trans hx5a
    obtain ⟨d0, d1'⟩ := tree_cells (Hb5.out.ext hx5a)
    obtain ⟨c0, c1⟩ := tree_cells (Hbt.out.ext hx0a)
    go_upto_region 12 with (first
      | (go_at_call 13; (with_reducible refine (sameTree_calls t A1 A2 pa ka P K d1 d2 pc kc _ (HT5.out.ext hx5a) (Hh.out.ext (hx0.trans hx0a))).mono ?_); rintro e w11 ⟨rfl, hx11⟩; clear c0 c1 d0 d1'; obtain ⟨d0, d1'⟩ := tree_cells (Hb5.out.ext (hx5a.trans hx11)))
      | (refine wpList_load_row_g (g := 4) (d' := 50) rfl rfl rfl 31 (.tmp 6) rfl ⟨g6, 0, none⟩ rfl (cmC c A3 Q d3) _ (fun j v hv => (hx8a.trans hx11).cell (H8.out j v hv)) Try.underlying31 rfl (by rw [cm_info, HLEN]) ?_)
      | (refine wpList_load_row_g (g := 4) (d' := 50) rfl rfl rfl 31 (.tmp 3) rfl ⟨g + 1, 0, none⟩ rfl (cmC c qa Q qc) _ (fun j v hv => (hx0a.trans hx11).cell (HC.out j v hv)) Try.underlying31 rfl (by rw [cm_info, hlen]) ?_)
      | (go_at_call 14; (with_reducible refine (sameCommit_calls c A3 qa Q d3 qc _ (HC8.out.ext (hx8a.trans hx11)) (Hc.out.ext (hx0.trans (hx0a.trans hx11)))).mono ?_); rintro e w12 ⟨rfl, hx12⟩; clear d0 d1'; obtain ⟨d0, d1'⟩ := tree_cells (Hb5.out.ext ((hx5a.trans hx11).trans hx12))))
    have hx8c := (hx8a.trans hx11).trans hx12
    have hx5c := hx58.trans hx8c
    have hx0c := hx05.trans hx5c
    obtain ⟨n9, hn9⟩ : ∃ n9, BT.length = n9 := ⟨_, rfl⟩
    obtain ⟨n10, hn10⟩ : ∃ n10, BC.length = n10 := ⟨_, rfl⟩
    have o9 := own9.ext (hx10.trans (hx11.trans hx12))
    have o10 := own10.ext (hx11.trans hx12)
    obtain ⟨A9, k9, e9, _, _, _⟩ := Own.form_at o9 hn9
    obtain ⟨A10, k10, e10, _, _, _⟩ := Own.form_at o10 hn10
    subst e9 e10
    have HN9 := Lib.hid hn9
    have HN10 := Lib.hid hn10
    have HO9 := Lib.hid o9
    have HO10 := Lib.hid o10
    have hz9 := hx9.size
    have hz56 := hx56.size
    obtain ⟨g1, hA1⟩ := own_blk (own_ext Hrow1.out hx5c)
    obtain ⟨g3, hA3⟩ := own_blk (own_ext Hrow3.out hx8c)
    have HA1 := Lib.hid hA1
    have HA3 := Lib.hid hA3
    clear own9 own10 o9 o10 hn9 hn10 hA1 hA3
    go_upto_region 13 with (fail)
    clear d0 d1'
    go_loopw [59] (fun i wr => ∃ (k : Nat), k ≤ P ∧ i = .int .i64 k ∧ w12.grownBy wr (Value.slice A1 P d1).ownBlock ∧ Hid (0 < P → ∃ cur, Blk wr g1 43 cur ∧ P * 2 ≤ cur.size)) (fun i _ => P - (intOf i).toNat)
    case atStart => exact ⟨0, Nat.zero_le _, rfl, World.grownBy.refl _ _, Lib.hid (fun h0 => (HA1.out h0).2)⟩
    case round =>
      obtain ⟨k, hk, rfl, hgr, Hcur⟩ := hrel
      by_cases hlt : k < P
      · obtain ⟨rfl, cur0, hbk0, _⟩ := HA1.out (by omega)
        obtain ⟨cur, hbk, hsz⟩ := Hcur.out (by omega)
        have hne : g5 ≠ g1 := Blk.ne (Hb5.out.ext hx5c) hbk0 (by decide)
        obtain ⟨d0, _⟩ := tree_cells ((Hb5.out.ext hx5c).grown hgr (fun e => by simp only [Value.ownBlock, Option.some.injEq] at e; exact hne e))
        have hc0 := hbk.cell_ (i := k * 2) (by omega)
        have hfr := hbk.frozen (k * 2)
        generalize cur[k * 2]'(by omega) = vv at hc0
        have hp0 : (0 : Int) ≤ (k : Int) := by omega
        have hp1 : (k : Int) < (P : Int) := by omega
        have Hbk := Lib.hid hbk
        clear hbk hbk0
        go_wp2
        go_roundw
        case rel => exact ⟨k + 1, by omega, by go_num, hgr.trans (grown_set _ _ _ _), Lib.hid (fun _ => ⟨_, Hbk.out.set _ _, by rw [Array.size_setIfInBounds]; exact hsz⟩)⟩
        case measure => simp [intOf]; omega
      · obtain rfl : k = P := by omega
        have hx3r : Ext w3 wr := (hx35.trans hx5c).grown_ hgr (fun j hj => (HB1.out j hj).1)
        have hrt : ∀ j, (Value.slice A1 k d1).ownBlock = some j → j < w5.heap.size := fun j hj => (HB1.out j hj).2
        have c1 := (cm_cells ((Hb8.out.ext hx8c).grown hgr (fun e => by have := hrt _ e.symm; rw [Hg6.out] at this; omega)) HR.out).2.1
        have Hb6r := Lib.hid ((Hb8.out.ext hx8c).grown hgr (fun e => by have := hrt _ e.symm; rw [Hg6.out] at this; omega))
        have HO9r := Lib.hid (HO9.out.past hgr (fun j hj => by have := hrt _ hj; omega))
        have HO10r := Lib.hid (HO10.out.past hgr (fun j hj => by have := hrt _ hj; omega))
        have Hrow3r := Lib.hid (own_past (own_ext Hrow3.out hx8c) hgr (fun j hj => by have := hrt _ hj; omega))
        obtain ⟨g4, hA4⟩ := own_blk Hrow3r.out
        have HA4 := Lib.hid hA4
        clear hA4
        go_upto_region 18 with (fail)
        clear c1
        go_loopw [71] (fun i wq => ∃ (m : Nat), m ≤ Q ∧ i = .int .i64 m ∧ wr.grownBy wq (Value.slice A3 Q d3).ownBlock ∧ Hid (0 < Q → ∃ cur, Blk wq g4 28 cur ∧ Q * 33 ≤ cur.size)) (fun i _ => Q - (intOf i).toNat)
        case atStart => exact ⟨0, Nat.zero_le _, rfl, World.grownBy.refl _ _, Lib.hid (fun h0 => (HA4.out h0).2)⟩
        case round =>
          obtain ⟨m, hm, rfl, hgq, Hcur3⟩ := hrel
          by_cases hlt3 : m < Q
          · obtain ⟨rfl, cur0, hbk0, _⟩ := HA4.out (by omega)
            obtain ⟨cur, hbk, hsz⟩ := Hcur3.out (by omega)
            have hne : g6 ≠ g4 := Blk.ne Hb6r.out hbk0 (by decide)
            have c1 := (cm_cells (Hb6r.out.grown hgq (fun e => by simp only [Value.ownBlock, Option.some.injEq] at e; exact hne e)) HR.out).2.1
            have hp0 : (0 : Int) ≤ (m : Int) := by omega
            have hp1 : (m : Int) < (Q : Int) := by omega
            have Hbk := Lib.hid hbk
            have hfit : m * 33 + 33 ≤ cur.size := by omega
            clear hbk hbk0
            go_wp2_with (refine wpList_store_part rfl 28 (.tmp 78) (.tmp 77) rfl rfl g4 (m * 33) (bv idNone).toArray rfl rfl 28 cur Hbk.out hfit (by kernel_rfl) (bv_cells _) ?_; intro w21 cs21 hs21 hb21 hg21)
            go_roundw
            case rel => exact ⟨m + 1, by omega, by go_num, hgq.trans hg21, Lib.hid (fun _ => ⟨_, hb21, by rw [hs21]; exact hsz⟩)⟩
            case measure => simp [intOf]; omega
          · obtain rfl : m = Q := by omega
            have hrq : ∀ j, (Value.slice A3 m d3).ownBlock = some j → w6.heap.size ≤ j ∧ j < w8.heap.size := fun j hj => HB3.out j hj
            have hz35 := hx35.size
            have hx3q := hx3r.grown_ hgq (fun j hj => by have := (hrq _ hj).1; omega)
            have HP9 := Lib.hid (HO9r.out.past hgq (fun j hj => (hrq _ hj).2))
            have HP10 := Lib.hid (HO10r.out.past hgq (fun j hj => by have := (hrq _ hj).2; omega))
            have hywq := hy3.trans hx3q
            have Hbtq := Lib.hid (Hbt3.out.ext hx3q)
            have Hbcq := Lib.hid (Hbc.out.ext (hx03.trans hx3q))
            go_upto_region 22 with (fail)
            cases hgt : t.good with
            | false =>
              obtain rfl : BT = [] := by have := HBT.out; rwa [hgt] at this
              obtain rfl : eT = 1 := by have := HeT.out; rwa [hgt] at this
              cases hgc : c.good with
              | false =>
                obtain rfl : BC = [] := by have := HBC.out; rwa [hgc] at this
                obtain rfl : eC = 1 := by have := HeC.out; rwa [hgc] at this
                refine wp_region_ops (FInv [80, 81, 82, 83, 84, 85, 86, 87, 88, 89, 90, 91, 92, 93, 94, 95, 96, 97, 98, 99, 4] _ wr.drew [⟨0, none, 80, .val (.int .i64 1)⟩, ⟨1, none, 81, .val (.bool true)⟩, ⟨2, none, 82, .val (.bool true)⟩, ⟨3, none, 83, .val undef⟩, ⟨4, none, 84, .val undef⟩, ⟨5, none, 85, .val undef⟩, ⟨6, none, 86, .val undef⟩, ⟨7, none, 87, .val undef⟩, ⟨8, none, 88, .val (.bool true)⟩, ⟨9, none, 89, .val (.bool true)⟩, ⟨10, none, 90, .val (.int .i64 1)⟩, ⟨11, none, 91, .val (.bool true)⟩, ⟨12, none, 92, .val (.bool true)⟩, ⟨13, none, 93, .val undef⟩, ⟨14, none, 94, .val undef⟩, ⟨15, none, 95, .val undef⟩, ⟨16, none, 96, .val undef⟩, ⟨17, none, 97, .val undef⟩, ⟨18, none, 98, .val (.bool true)⟩, ⟨19, none, 99, .val (.bool true)⟩, ⟨20, none, 4, .val (.bool true)⟩]) (by kernel_rfl) (by kernel_rfl) FInv.start ?_ ?_
                · refine ⟨?o0, ?o1, ?o2, ?o3, ?o4, ?o5, ?o6, ?o7, ?o8, ?o9, ?o10, ?o11, ?o12, ?o13, ?o14, ?o15, ?o16, ?o17, ?o18, ?o19, ?o20, trivial⟩
                  case o0 =>
                    intro f a u h hfi hp hq
                    have q8 : a.tmps[8]?.getD undef = .int .i64 1 := h.agree.att (by decide)
                    exact h.yieldG rfl (wanted_none rfl) 80 rfl (by change 80 < 100; decide) rfl _ rfl (by go_simp)
                  case o1 =>
                    intro f a u h hfi hp hq
                    have q80 := h.att 0 rfl (pre_of hp 0 rfl)
                    exact h.yieldG rfl (wanted_none rfl) 81 rfl (by change 81 < 100; decide) rfl _ rfl (by go_simp)
                  case o2 =>
                    intro f a u h hfi hp hq
                    have q81 := h.att 1 rfl (pre_of hp 1 rfl)
                    exact h.yieldG rfl (wanted_none rfl) 82 rfl (by change 82 < 100; decide) rfl _ rfl (by go_simp)
                  case o3 =>
                    intro f a u h hfi hp hq
                    exact h.skipG rfl (wanted_not (g := 2) (d' := 82) rfl rfl (h.at_ 2 rfl (pre_of hp 2 rfl)) rfl) 83 rfl (by change 83 < 100; decide) rfl rfl
                  case o4 =>
                    intro f a u h hfi hp hq
                    exact h.skipG rfl (wanted_not (g := 2) (d' := 82) rfl rfl (h.at_ 2 rfl (pre_of hp 2 rfl)) rfl) 84 rfl (by change 84 < 100; decide) rfl rfl
                  case o5 =>
                    intro f a u h hfi hp hq
                    exact h.skipG rfl (wanted_not (g := 2) (d' := 82) rfl rfl (h.at_ 2 rfl (pre_of hp 2 rfl)) rfl) 85 rfl (by change 85 < 100; decide) rfl rfl
                  case o6 =>
                    intro f a u h hfi hp hq
                    exact h.skipG rfl (wanted_not (g := 2) (d' := 82) rfl rfl (h.at_ 2 rfl (pre_of hp 2 rfl)) rfl) 86 rfl (by change 86 < 100; decide) rfl rfl
                  case o7 =>
                    intro f a u h hfi hp hq
                    exact h.skipG rfl (wanted_not (g := 2) (d' := 82) rfl rfl (h.at_ 2 rfl (pre_of hp 2 rfl)) rfl) 87 rfl (by change 87 < 100; decide) rfl rfl
                  case o8 =>
                    intro f a u h hfi hp hq
                    have q82 := h.att 2 rfl (pre_of hp 2 rfl)
                    have q87 := h.att 7 rfl (pre_of hp 7 rfl)
                    exact h.yieldG rfl (wanted_none rfl) 88 rfl (by change 88 < 100; decide) rfl _ rfl (by go_simp)
                  case o9 =>
                    intro f a u h hfi hp hq
                    have q88 := h.att 8 rfl (pre_of hp 8 rfl)
                    exact h.yieldG rfl (wanted_none rfl) 89 rfl (by change 89 < 100; decide) rfl _ rfl (by go_simp)
                  case o10 =>
                    intro f a u h hfi hp hq
                    have q10 : a.tmps[10]?.getD undef = .int .i64 1 := h.agree.att (by decide)
                    exact h.yieldG rfl (wanted_yes (g := 9) (d' := 89) rfl rfl (h.at_ 9 rfl (pre_of hp 9 rfl))) 90 rfl (by change 90 < 100; decide) rfl _ rfl (by go_simp)
                  case o11 =>
                    intro f a u h hfi hp hq
                    have q90 := h.att 10 rfl (pre_of hp 10 rfl)
                    exact h.yieldG rfl (wanted_yes (g := 9) (d' := 89) rfl rfl (h.at_ 9 rfl (pre_of hp 9 rfl))) 91 rfl (by change 91 < 100; decide) rfl _ rfl (by go_simp)
                  case o12 =>
                    intro f a u h hfi hp hq
                    have q91 := h.att 11 rfl (pre_of hp 11 rfl)
                    exact h.yieldG rfl (wanted_yes (g := 9) (d' := 89) rfl rfl (h.at_ 9 rfl (pre_of hp 9 rfl))) 92 rfl (by change 92 < 100; decide) rfl _ rfl (by go_simp)
                  case o13 =>
                    intro f a u h hfi hp hq
                    exact h.skipG rfl (wanted_not (g := 12) (d' := 92) rfl rfl (h.at_ 12 rfl (pre_of hp 12 rfl)) rfl) 93 rfl (by change 93 < 100; decide) rfl rfl
                  case o14 =>
                    intro f a u h hfi hp hq
                    exact h.skipG rfl (wanted_not (g := 12) (d' := 92) rfl rfl (h.at_ 12 rfl (pre_of hp 12 rfl)) rfl) 94 rfl (by change 94 < 100; decide) rfl rfl
                  case o15 =>
                    intro f a u h hfi hp hq
                    exact h.skipG rfl (wanted_not (g := 12) (d' := 92) rfl rfl (h.at_ 12 rfl (pre_of hp 12 rfl)) rfl) 95 rfl (by change 95 < 100; decide) rfl rfl
                  case o16 =>
                    intro f a u h hfi hp hq
                    exact h.skipG rfl (wanted_not (g := 12) (d' := 92) rfl rfl (h.at_ 12 rfl (pre_of hp 12 rfl)) rfl) 96 rfl (by change 96 < 100; decide) rfl rfl
                  case o17 =>
                    intro f a u h hfi hp hq
                    exact h.skipG rfl (wanted_not (g := 12) (d' := 92) rfl rfl (h.at_ 12 rfl (pre_of hp 12 rfl)) rfl) 97 rfl (by change 97 < 100; decide) rfl rfl
                  case o18 =>
                    intro f a u h hfi hp hq
                    have q92 := h.att 12 rfl (pre_of hp 12 rfl)
                    have q97 := h.att 17 rfl (pre_of hp 17 rfl)
                    exact h.yieldG rfl (wanted_yes (g := 9) (d' := 89) rfl rfl (h.at_ 9 rfl (pre_of hp 9 rfl))) 98 rfl (by change 98 < 100; decide) rfl _ rfl (by go_simp)
                  case o19 =>
                    intro f a u h hfi hp hq
                    have q89 := h.att 9 rfl (pre_of hp 9 rfl)
                    have q98 := h.att 18 rfl (pre_of hp 18 rfl)
                    exact h.yieldG rfl (wanted_none rfl) 99 rfl (by change 99 < 100; decide) rfl _ rfl (by go_simp)
                  case o20 =>
                    intro f a u h hfi hp hq
                    have q99 := h.att 19 rfl (pre_of hp 19 rfl)
                    exact h.yieldG rfl (wanted_none rfl) 4 rfl (by change 4 < 100; decide) rfl _ rfl (by go_simp)
                · intro f a u h hall hfar
                  have hyu : Ext wr u := ((Ext.refl wr).drew).trans h.ext
                  have e4 := h.at_ 20 rfl (hall 20 (by decide))
                  have hag := h.agree.out
                  simp only [List.foldl_cons, List.foldl_nil, Act.put, List.setIfInBounds_toArray, List.set_cons_zero, List.set_cons_succ, e4] at hag
                  generalize a.eval (.tmp 80) = y80 at hag
                  generalize a.eval (.tmp 81) = y81 at hag
                  generalize a.eval (.tmp 82) = y82 at hag
                  generalize a.eval (.tmp 83) = y83 at hag
                  generalize a.eval (.tmp 84) = y84 at hag
                  generalize a.eval (.tmp 85) = y85 at hag
                  generalize a.eval (.tmp 86) = y86 at hag
                  generalize a.eval (.tmp 87) = y87 at hag
                  generalize a.eval (.tmp 88) = y88 at hag
                  generalize a.eval (.tmp 89) = y89 at hag
                  generalize a.eval (.tmp 90) = y90 at hag
                  generalize a.eval (.tmp 91) = y91 at hag
                  generalize a.eval (.tmp 92) = y92 at hag
                  generalize a.eval (.tmp 93) = y93 at hag
                  generalize a.eval (.tmp 94) = y94 at hag
                  generalize a.eval (.tmp 95) = y95 at hag
                  generalize a.eval (.tmp 96) = y96 at hag
                  generalize a.eval (.tmp 97) = y97 at hag
                  generalize a.eval (.tmp 98) = y98 at hag
                  generalize a.eval (.tmp 99) = y99 at hag
                  clear h hall hfar e4
                  subst hag
                  go_wp2
                  go_ret
                  exact ⟨rfl, hywq.trans hyu⟩
              | true =>
                obtain rfl : BC = c.bytes := by have := HBC.out; rwa [hgc] at this
                obtain rfl : eC = 0 := by have := HeC.out; rwa [hgc] at this
                refine wp_region_ops (FInv [80, 81, 82, 83, 84, 85, 86, 87, 88, 89, 90, 91, 92, 93, 94, 95, 96, 97, 98, 99, 4] _ wr.drew [⟨0, none, 80, .val (.int .i64 1)⟩, ⟨1, none, 81, .val (.bool true)⟩, ⟨2, none, 82, .val (.bool true)⟩, ⟨3, none, 83, .val undef⟩, ⟨4, none, 84, .val undef⟩, ⟨5, none, 85, .val undef⟩, ⟨6, none, 86, .val undef⟩, ⟨7, none, 87, .val undef⟩, ⟨8, none, 88, .val (.bool true)⟩, ⟨9, none, 89, .val (.bool true)⟩, ⟨10, none, 90, .val (.int .i64 0)⟩, ⟨11, none, 91, .val (.bool false)⟩, ⟨12, none, 92, .val (.bool false)⟩, ⟨13, none, 93, .val (.slice A10 n10 k10)⟩, ⟨14, none, 94, .val (.string (bstr c.bytes))⟩, ⟨15, none, 95, .val (.agg (cmC c qa m qc).toArray)⟩, ⟨16, none, 96, .val (.string (bstr c.bytes))⟩, ⟨17, none, 97, .val (.bool true)⟩, ⟨18, none, 98, .val (.bool true)⟩, ⟨19, none, 99, .val (.bool true)⟩, ⟨20, none, 4, .val (.bool true)⟩]) (by kernel_rfl) (by kernel_rfl) FInv.start ?_ ?_
                · refine ⟨?o0, ?o1, ?o2, ?o3, ?o4, ?o5, ?o6, ?o7, ?o8, ?o9, ?o10, ?o11, ?o12, ?o13, ?o14, ?o15, ?o16, ?o17, ?o18, ?o19, ?o20, trivial⟩
                  case o0 =>
                    intro f a u h hfi hp hq
                    have q8 : a.tmps[8]?.getD undef = .int .i64 1 := h.agree.att (by decide)
                    exact h.yieldG rfl (wanted_none rfl) 80 rfl (by change 80 < 100; decide) rfl _ rfl (by go_simp)
                  case o1 =>
                    intro f a u h hfi hp hq
                    have q80 := h.att 0 rfl (pre_of hp 0 rfl)
                    exact h.yieldG rfl (wanted_none rfl) 81 rfl (by change 81 < 100; decide) rfl _ rfl (by go_simp)
                  case o2 =>
                    intro f a u h hfi hp hq
                    have q81 := h.att 1 rfl (pre_of hp 1 rfl)
                    exact h.yieldG rfl (wanted_none rfl) 82 rfl (by change 82 < 100; decide) rfl _ rfl (by go_simp)
                  case o3 =>
                    intro f a u h hfi hp hq
                    exact h.skipG rfl (wanted_not (g := 2) (d' := 82) rfl rfl (h.at_ 2 rfl (pre_of hp 2 rfl)) rfl) 83 rfl (by change 83 < 100; decide) rfl rfl
                  case o4 =>
                    intro f a u h hfi hp hq
                    exact h.skipG rfl (wanted_not (g := 2) (d' := 82) rfl rfl (h.at_ 2 rfl (pre_of hp 2 rfl)) rfl) 84 rfl (by change 84 < 100; decide) rfl rfl
                  case o5 =>
                    intro f a u h hfi hp hq
                    exact h.skipG rfl (wanted_not (g := 2) (d' := 82) rfl rfl (h.at_ 2 rfl (pre_of hp 2 rfl)) rfl) 85 rfl (by change 85 < 100; decide) rfl rfl
                  case o6 =>
                    intro f a u h hfi hp hq
                    exact h.skipG rfl (wanted_not (g := 2) (d' := 82) rfl rfl (h.at_ 2 rfl (pre_of hp 2 rfl)) rfl) 86 rfl (by change 86 < 100; decide) rfl rfl
                  case o7 =>
                    intro f a u h hfi hp hq
                    exact h.skipG rfl (wanted_not (g := 2) (d' := 82) rfl rfl (h.at_ 2 rfl (pre_of hp 2 rfl)) rfl) 87 rfl (by change 87 < 100; decide) rfl rfl
                  case o8 =>
                    intro f a u h hfi hp hq
                    have q82 := h.att 2 rfl (pre_of hp 2 rfl)
                    have q87 := h.att 7 rfl (pre_of hp 7 rfl)
                    exact h.yieldG rfl (wanted_none rfl) 88 rfl (by change 88 < 100; decide) rfl _ rfl (by go_simp)
                  case o9 =>
                    intro f a u h hfi hp hq
                    have q88 := h.att 8 rfl (pre_of hp 8 rfl)
                    exact h.yieldG rfl (wanted_none rfl) 89 rfl (by change 89 < 100; decide) rfl _ rfl (by go_simp)
                  case o10 =>
                    intro f a u h hfi hp hq
                    have q10 : a.tmps[10]?.getD undef = .int .i64 0 := h.agree.att (by decide)
                    exact h.yieldG rfl (wanted_yes (g := 9) (d' := 89) rfl rfl (h.at_ 9 rfl (pre_of hp 9 rfl))) 90 rfl (by change 90 < 100; decide) rfl _ rfl (by go_simp)
                  case o11 =>
                    intro f a u h hfi hp hq
                    have q90 := h.att 10 rfl (pre_of hp 10 rfl)
                    exact h.yieldG rfl (wanted_yes (g := 9) (d' := 89) rfl rfl (h.at_ 9 rfl (pre_of hp 9 rfl))) 91 rfl (by change 91 < 100; decide) rfl _ rfl (by go_simp)
                  case o12 =>
                    intro f a u h hfi hp hq
                    have q91 := h.att 11 rfl (pre_of hp 11 rfl)
                    exact h.yieldG rfl (wanted_yes (g := 9) (d' := 89) rfl rfl (h.at_ 9 rfl (pre_of hp 9 rfl))) 92 rfl (by change 92 < 100; decide) rfl _ rfl (by go_simp)
                  case o13 =>
                    intro f a u h hfi hp hq
                    have q9 : a.tmps[9]?.getD undef = .slice A10 n10 k10 := h.agree.att (by decide)
                    exact h.yieldG rfl (wanted_yes (g := 12) (d' := 92) rfl rfl (h.at_ 12 rfl (pre_of hp 12 rfl))) 93 rfl (by change 93 < 100; decide) rfl _ rfl (by go_simp)
                  case o14 =>
                    intro f a u h hfi hp hq
                    have hyu : Ext wr u := ((Ext.refl wr).drew).trans h.ext
                    exact h.yieldG rfl (wanted_yes (g := 12) (d' := 92) rfl rfl (h.at_ 12 rfl (pre_of hp 12 rfl))) 94 rfl (by change 94 < 100; decide) rfl _ rfl (run_of_sem rfl (by rw [h.at_ 13 rfl (pre_of hp 13 rfl)]; exact conv_str (P := Try.prog) Try.underlying35 Try.underlying5 Try.underlying9 HN10.out (HP10.out.ext hyu).cells))
                  case o15 =>
                    intro f a u h hfi hp hq
                    have hyu : Ext wr u := ((Ext.refl wr).drew).trans h.ext
                    exact h.yieldG rfl (wanted_yes (g := 12) (d' := 92) rfl rfl (h.at_ 12 rfl (pre_of hp 12 rfl))) 95 rfl (by change 95 < 100; decide) rfl _ rfl (run_of_sem rfl (by rw [(show a.eval (.tmp 3) = .pointer (some ⟨g + 1, 0, none⟩) from h.agree.eval (by decide))]; exact run_load_blk (Hbcq.out.ext hyu) Try.underlying31 rfl (by rw [List.size_toArray, hlen]; kernel_rfl)))
                  case o16 =>
                    intro f a u h hfi hp hq
                    have hyu : Ext wr u := ((Ext.refl wr).drew).trans h.ext
                    exact h.callG rfl (wanted_yes (g := 12) (d' := 92) rfl rfl (h.at_ 12 rfl (pre_of hp 12 rfl))) 96 rfl (by change 96 < 100; decide) rfl _ rfl 16 #[.tmp 95] #[31] _ rfl (by kernel_rfl) (by rw [arr1, h.at_ 15 rfl (pre_of hp 15 rfl)]) (rcommit_calls c qa m qc u (Hc3.out.ext (hx3q.trans hyu)) hgc)
                  case o17 =>
                    intro f a u h hfi hp hq
                    have q94 := h.att 14 rfl (pre_of hp 14 rfl)
                    have q96 := h.att 16 rfl (pre_of hp 16 rfl)
                    exact h.yieldG rfl (wanted_yes (g := 12) (d' := 92) rfl rfl (h.at_ 12 rfl (pre_of hp 12 rfl))) 97 rfl (by change 97 < 100; decide) rfl _ rfl (by go_simp)
                  case o18 =>
                    intro f a u h hfi hp hq
                    have q92 := h.att 12 rfl (pre_of hp 12 rfl)
                    have q97 := h.att 17 rfl (pre_of hp 17 rfl)
                    exact h.yieldG rfl (wanted_yes (g := 9) (d' := 89) rfl rfl (h.at_ 9 rfl (pre_of hp 9 rfl))) 98 rfl (by change 98 < 100; decide) rfl _ rfl (by go_simp)
                  case o19 =>
                    intro f a u h hfi hp hq
                    have q89 := h.att 9 rfl (pre_of hp 9 rfl)
                    have q98 := h.att 18 rfl (pre_of hp 18 rfl)
                    exact h.yieldG rfl (wanted_none rfl) 99 rfl (by change 99 < 100; decide) rfl _ rfl (by go_simp)
                  case o20 =>
                    intro f a u h hfi hp hq
                    have q99 := h.att 19 rfl (pre_of hp 19 rfl)
                    exact h.yieldG rfl (wanted_none rfl) 4 rfl (by change 4 < 100; decide) rfl _ rfl (by go_simp)
                · intro f a u h hall hfar
                  have hyu : Ext wr u := ((Ext.refl wr).drew).trans h.ext
                  have e4 := h.at_ 20 rfl (hall 20 (by decide))
                  have hag := h.agree.out
                  simp only [List.foldl_cons, List.foldl_nil, Act.put, List.setIfInBounds_toArray, List.set_cons_zero, List.set_cons_succ, e4] at hag
                  generalize a.eval (.tmp 80) = y80 at hag
                  generalize a.eval (.tmp 81) = y81 at hag
                  generalize a.eval (.tmp 82) = y82 at hag
                  generalize a.eval (.tmp 83) = y83 at hag
                  generalize a.eval (.tmp 84) = y84 at hag
                  generalize a.eval (.tmp 85) = y85 at hag
                  generalize a.eval (.tmp 86) = y86 at hag
                  generalize a.eval (.tmp 87) = y87 at hag
                  generalize a.eval (.tmp 88) = y88 at hag
                  generalize a.eval (.tmp 89) = y89 at hag
                  generalize a.eval (.tmp 90) = y90 at hag
                  generalize a.eval (.tmp 91) = y91 at hag
                  generalize a.eval (.tmp 92) = y92 at hag
                  generalize a.eval (.tmp 93) = y93 at hag
                  generalize a.eval (.tmp 94) = y94 at hag
                  generalize a.eval (.tmp 95) = y95 at hag
                  generalize a.eval (.tmp 96) = y96 at hag
                  generalize a.eval (.tmp 97) = y97 at hag
                  generalize a.eval (.tmp 98) = y98 at hag
                  generalize a.eval (.tmp 99) = y99 at hag
                  clear h hall hfar e4
                  subst hag
                  go_wp2
                  go_ret
                  exact ⟨rfl, hywq.trans hyu⟩
            | true =>
              obtain rfl : BT = t.bytes := by have := HBT.out; rwa [hgt] at this
              obtain rfl : eT = 0 := by have := HeT.out; rwa [hgt] at this
              cases hgc : c.good with
              | false =>
                obtain rfl : BC = [] := by have := HBC.out; rwa [hgc] at this
                obtain rfl : eC = 1 := by have := HeC.out; rwa [hgc] at this
                refine wp_region_ops (FInv [80, 81, 82, 83, 84, 85, 86, 87, 88, 89, 90, 91, 92, 93, 94, 95, 96, 97, 98, 99, 4] _ wr.drew [⟨0, none, 80, .val (.int .i64 0)⟩, ⟨1, none, 81, .val (.bool false)⟩, ⟨2, none, 82, .val (.bool false)⟩, ⟨3, none, 83, .val (.slice A9 n9 k9)⟩, ⟨4, none, 84, .val (.string (bstr t.bytes))⟩, ⟨5, none, 85, .val (.agg #[.slice pa k pc, .slice ka K kc])⟩, ⟨6, none, 86, .val (.string (bstr t.bytes))⟩, ⟨7, none, 87, .val (.bool true)⟩, ⟨8, none, 88, .val (.bool true)⟩, ⟨9, none, 89, .val (.bool true)⟩, ⟨10, none, 90, .val (.int .i64 1)⟩, ⟨11, none, 91, .val (.bool true)⟩, ⟨12, none, 92, .val (.bool true)⟩, ⟨13, none, 93, .val undef⟩, ⟨14, none, 94, .val undef⟩, ⟨15, none, 95, .val undef⟩, ⟨16, none, 96, .val undef⟩, ⟨17, none, 97, .val undef⟩, ⟨18, none, 98, .val (.bool true)⟩, ⟨19, none, 99, .val (.bool true)⟩, ⟨20, none, 4, .val (.bool true)⟩]) (by kernel_rfl) (by kernel_rfl) FInv.start ?_ ?_
                · refine ⟨?o0, ?o1, ?o2, ?o3, ?o4, ?o5, ?o6, ?o7, ?o8, ?o9, ?o10, ?o11, ?o12, ?o13, ?o14, ?o15, ?o16, ?o17, ?o18, ?o19, ?o20, trivial⟩
                  case o0 =>
                    intro f a u h hfi hp hq
                    have q8 : a.tmps[8]?.getD undef = .int .i64 0 := h.agree.att (by decide)
                    exact h.yieldG rfl (wanted_none rfl) 80 rfl (by change 80 < 100; decide) rfl _ rfl (by go_simp)
                  case o1 =>
                    intro f a u h hfi hp hq
                    have q80 := h.att 0 rfl (pre_of hp 0 rfl)
                    exact h.yieldG rfl (wanted_none rfl) 81 rfl (by change 81 < 100; decide) rfl _ rfl (by go_simp)
                  case o2 =>
                    intro f a u h hfi hp hq
                    have q81 := h.att 1 rfl (pre_of hp 1 rfl)
                    exact h.yieldG rfl (wanted_none rfl) 82 rfl (by change 82 < 100; decide) rfl _ rfl (by go_simp)
                  case o3 =>
                    intro f a u h hfi hp hq
                    have q7 : a.tmps[7]?.getD undef = .slice A9 n9 k9 := h.agree.att (by decide)
                    exact h.yieldG rfl (wanted_yes (g := 2) (d' := 82) rfl rfl (h.at_ 2 rfl (pre_of hp 2 rfl))) 83 rfl (by change 83 < 100; decide) rfl _ rfl (by go_simp)
                  case o4 =>
                    intro f a u h hfi hp hq
                    have hyu : Ext wr u := ((Ext.refl wr).drew).trans h.ext
                    exact h.yieldG rfl (wanted_yes (g := 2) (d' := 82) rfl rfl (h.at_ 2 rfl (pre_of hp 2 rfl))) 84 rfl (by change 84 < 100; decide) rfl _ rfl (run_of_sem rfl (by rw [h.at_ 3 rfl (pre_of hp 3 rfl)]; exact conv_str (P := Try.prog) Try.underlying35 Try.underlying5 Try.underlying9 HN9.out (HP9.out.ext hyu).cells))
                  case o5 =>
                    intro f a u h hfi hp hq
                    have hyu : Ext wr u := ((Ext.refl wr).drew).trans h.ext
                    exact h.yieldG rfl (wanted_yes (g := 2) (d' := 82) rfl rfl (h.at_ 2 rfl (pre_of hp 2 rfl))) 85 rfl (by change 85 < 100; decide) rfl _ rfl (run_of_sem rfl (by rw [(show a.eval (.tmp 2) = .pointer (some ⟨g, 0, none⟩) from h.agree.eval (by decide))]; exact run_load_blk (Hbtq.out.ext hyu) Try.underlying25 rfl (by kernel_rfl)))
                  case o6 =>
                    intro f a u h hfi hp hq
                    have hyu : Ext wr u := ((Ext.refl wr).drew).trans h.ext
                    exact h.callG rfl (wanted_yes (g := 2) (d' := 82) rfl rfl (h.at_ 2 rfl (pre_of hp 2 rfl))) 86 rfl (by change 86 < 100; decide) rfl _ rfl 15 #[.tmp 85] #[25] _ rfl (by kernel_rfl) (by rw [arr1, h.at_ 5 rfl (pre_of hp 5 rfl)]) (rtree_calls t pa ka k K pc kc u (Hh3.out.ext (hx3q.trans hyu)) hgt)
                  case o7 =>
                    intro f a u h hfi hp hq
                    have q84 := h.att 4 rfl (pre_of hp 4 rfl)
                    have q86 := h.att 6 rfl (pre_of hp 6 rfl)
                    exact h.yieldG rfl (wanted_yes (g := 2) (d' := 82) rfl rfl (h.at_ 2 rfl (pre_of hp 2 rfl))) 87 rfl (by change 87 < 100; decide) rfl _ rfl (by go_simp)
                  case o8 =>
                    intro f a u h hfi hp hq
                    have q82 := h.att 2 rfl (pre_of hp 2 rfl)
                    have q87 := h.att 7 rfl (pre_of hp 7 rfl)
                    exact h.yieldG rfl (wanted_none rfl) 88 rfl (by change 88 < 100; decide) rfl _ rfl (by go_simp)
                  case o9 =>
                    intro f a u h hfi hp hq
                    have q88 := h.att 8 rfl (pre_of hp 8 rfl)
                    exact h.yieldG rfl (wanted_none rfl) 89 rfl (by change 89 < 100; decide) rfl _ rfl (by go_simp)
                  case o10 =>
                    intro f a u h hfi hp hq
                    have q10 : a.tmps[10]?.getD undef = .int .i64 1 := h.agree.att (by decide)
                    exact h.yieldG rfl (wanted_yes (g := 9) (d' := 89) rfl rfl (h.at_ 9 rfl (pre_of hp 9 rfl))) 90 rfl (by change 90 < 100; decide) rfl _ rfl (by go_simp)
                  case o11 =>
                    intro f a u h hfi hp hq
                    have q90 := h.att 10 rfl (pre_of hp 10 rfl)
                    exact h.yieldG rfl (wanted_yes (g := 9) (d' := 89) rfl rfl (h.at_ 9 rfl (pre_of hp 9 rfl))) 91 rfl (by change 91 < 100; decide) rfl _ rfl (by go_simp)
                  case o12 =>
                    intro f a u h hfi hp hq
                    have q91 := h.att 11 rfl (pre_of hp 11 rfl)
                    exact h.yieldG rfl (wanted_yes (g := 9) (d' := 89) rfl rfl (h.at_ 9 rfl (pre_of hp 9 rfl))) 92 rfl (by change 92 < 100; decide) rfl _ rfl (by go_simp)
                  case o13 =>
                    intro f a u h hfi hp hq
                    exact h.skipG rfl (wanted_not (g := 12) (d' := 92) rfl rfl (h.at_ 12 rfl (pre_of hp 12 rfl)) rfl) 93 rfl (by change 93 < 100; decide) rfl rfl
                  case o14 =>
                    intro f a u h hfi hp hq
                    exact h.skipG rfl (wanted_not (g := 12) (d' := 92) rfl rfl (h.at_ 12 rfl (pre_of hp 12 rfl)) rfl) 94 rfl (by change 94 < 100; decide) rfl rfl
                  case o15 =>
                    intro f a u h hfi hp hq
                    exact h.skipG rfl (wanted_not (g := 12) (d' := 92) rfl rfl (h.at_ 12 rfl (pre_of hp 12 rfl)) rfl) 95 rfl (by change 95 < 100; decide) rfl rfl
                  case o16 =>
                    intro f a u h hfi hp hq
                    exact h.skipG rfl (wanted_not (g := 12) (d' := 92) rfl rfl (h.at_ 12 rfl (pre_of hp 12 rfl)) rfl) 96 rfl (by change 96 < 100; decide) rfl rfl
                  case o17 =>
                    intro f a u h hfi hp hq
                    exact h.skipG rfl (wanted_not (g := 12) (d' := 92) rfl rfl (h.at_ 12 rfl (pre_of hp 12 rfl)) rfl) 97 rfl (by change 97 < 100; decide) rfl rfl
                  case o18 =>
                    intro f a u h hfi hp hq
                    have q92 := h.att 12 rfl (pre_of hp 12 rfl)
                    have q97 := h.att 17 rfl (pre_of hp 17 rfl)
                    exact h.yieldG rfl (wanted_yes (g := 9) (d' := 89) rfl rfl (h.at_ 9 rfl (pre_of hp 9 rfl))) 98 rfl (by change 98 < 100; decide) rfl _ rfl (by go_simp)
                  case o19 =>
                    intro f a u h hfi hp hq
                    have q89 := h.att 9 rfl (pre_of hp 9 rfl)
                    have q98 := h.att 18 rfl (pre_of hp 18 rfl)
                    exact h.yieldG rfl (wanted_none rfl) 99 rfl (by change 99 < 100; decide) rfl _ rfl (by go_simp)
                  case o20 =>
                    intro f a u h hfi hp hq
                    have q99 := h.att 19 rfl (pre_of hp 19 rfl)
                    exact h.yieldG rfl (wanted_none rfl) 4 rfl (by change 4 < 100; decide) rfl _ rfl (by go_simp)
                · intro f a u h hall hfar
                  have hyu : Ext wr u := ((Ext.refl wr).drew).trans h.ext
                  have e4 := h.at_ 20 rfl (hall 20 (by decide))
                  have hag := h.agree.out
                  simp only [List.foldl_cons, List.foldl_nil, Act.put, List.setIfInBounds_toArray, List.set_cons_zero, List.set_cons_succ, e4] at hag
                  generalize a.eval (.tmp 80) = y80 at hag
                  generalize a.eval (.tmp 81) = y81 at hag
                  generalize a.eval (.tmp 82) = y82 at hag
                  generalize a.eval (.tmp 83) = y83 at hag
                  generalize a.eval (.tmp 84) = y84 at hag
                  generalize a.eval (.tmp 85) = y85 at hag
                  generalize a.eval (.tmp 86) = y86 at hag
                  generalize a.eval (.tmp 87) = y87 at hag
                  generalize a.eval (.tmp 88) = y88 at hag
                  generalize a.eval (.tmp 89) = y89 at hag
                  generalize a.eval (.tmp 90) = y90 at hag
                  generalize a.eval (.tmp 91) = y91 at hag
                  generalize a.eval (.tmp 92) = y92 at hag
                  generalize a.eval (.tmp 93) = y93 at hag
                  generalize a.eval (.tmp 94) = y94 at hag
                  generalize a.eval (.tmp 95) = y95 at hag
                  generalize a.eval (.tmp 96) = y96 at hag
                  generalize a.eval (.tmp 97) = y97 at hag
                  generalize a.eval (.tmp 98) = y98 at hag
                  generalize a.eval (.tmp 99) = y99 at hag
                  clear h hall hfar e4
                  subst hag
                  go_wp2
                  go_ret
                  exact ⟨rfl, hywq.trans hyu⟩
              | true =>
                obtain rfl : BC = c.bytes := by have := HBC.out; rwa [hgc] at this
                obtain rfl : eC = 0 := by have := HeC.out; rwa [hgc] at this
                refine wp_region_ops (FInv [80, 81, 82, 83, 84, 85, 86, 87, 88, 89, 90, 91, 92, 93, 94, 95, 96, 97, 98, 99, 4] _ wr.drew [⟨0, none, 80, .val (.int .i64 0)⟩, ⟨1, none, 81, .val (.bool false)⟩, ⟨2, none, 82, .val (.bool false)⟩, ⟨3, none, 83, .val (.slice A9 n9 k9)⟩, ⟨4, none, 84, .val (.string (bstr t.bytes))⟩, ⟨5, none, 85, .val (.agg #[.slice pa k pc, .slice ka K kc])⟩, ⟨6, none, 86, .val (.string (bstr t.bytes))⟩, ⟨7, none, 87, .val (.bool true)⟩, ⟨8, none, 88, .val (.bool true)⟩, ⟨9, none, 89, .val (.bool true)⟩, ⟨10, none, 90, .val (.int .i64 0)⟩, ⟨11, none, 91, .val (.bool false)⟩, ⟨12, none, 92, .val (.bool false)⟩, ⟨13, none, 93, .val (.slice A10 n10 k10)⟩, ⟨14, none, 94, .val (.string (bstr c.bytes))⟩, ⟨15, none, 95, .val (.agg (cmC c qa m qc).toArray)⟩, ⟨16, none, 96, .val (.string (bstr c.bytes))⟩, ⟨17, none, 97, .val (.bool true)⟩, ⟨18, none, 98, .val (.bool true)⟩, ⟨19, none, 99, .val (.bool true)⟩, ⟨20, none, 4, .val (.bool true)⟩]) (by kernel_rfl) (by kernel_rfl) FInv.start ?_ ?_
                · refine ⟨?o0, ?o1, ?o2, ?o3, ?o4, ?o5, ?o6, ?o7, ?o8, ?o9, ?o10, ?o11, ?o12, ?o13, ?o14, ?o15, ?o16, ?o17, ?o18, ?o19, ?o20, trivial⟩
                  case o0 =>
                    intro f a u h hfi hp hq
                    have q8 : a.tmps[8]?.getD undef = .int .i64 0 := h.agree.att (by decide)
                    exact h.yieldG rfl (wanted_none rfl) 80 rfl (by change 80 < 100; decide) rfl _ rfl (by go_simp)
                  case o1 =>
                    intro f a u h hfi hp hq
                    have q80 := h.att 0 rfl (pre_of hp 0 rfl)
                    exact h.yieldG rfl (wanted_none rfl) 81 rfl (by change 81 < 100; decide) rfl _ rfl (by go_simp)
                  case o2 =>
                    intro f a u h hfi hp hq
                    have q81 := h.att 1 rfl (pre_of hp 1 rfl)
                    exact h.yieldG rfl (wanted_none rfl) 82 rfl (by change 82 < 100; decide) rfl _ rfl (by go_simp)
                  case o3 =>
                    intro f a u h hfi hp hq
                    have q7 : a.tmps[7]?.getD undef = .slice A9 n9 k9 := h.agree.att (by decide)
                    exact h.yieldG rfl (wanted_yes (g := 2) (d' := 82) rfl rfl (h.at_ 2 rfl (pre_of hp 2 rfl))) 83 rfl (by change 83 < 100; decide) rfl _ rfl (by go_simp)
                  case o4 =>
                    intro f a u h hfi hp hq
                    have hyu : Ext wr u := ((Ext.refl wr).drew).trans h.ext
                    exact h.yieldG rfl (wanted_yes (g := 2) (d' := 82) rfl rfl (h.at_ 2 rfl (pre_of hp 2 rfl))) 84 rfl (by change 84 < 100; decide) rfl _ rfl (run_of_sem rfl (by rw [h.at_ 3 rfl (pre_of hp 3 rfl)]; exact conv_str (P := Try.prog) Try.underlying35 Try.underlying5 Try.underlying9 HN9.out (HP9.out.ext hyu).cells))
                  case o5 =>
                    intro f a u h hfi hp hq
                    have hyu : Ext wr u := ((Ext.refl wr).drew).trans h.ext
                    exact h.yieldG rfl (wanted_yes (g := 2) (d' := 82) rfl rfl (h.at_ 2 rfl (pre_of hp 2 rfl))) 85 rfl (by change 85 < 100; decide) rfl _ rfl (run_of_sem rfl (by rw [(show a.eval (.tmp 2) = .pointer (some ⟨g, 0, none⟩) from h.agree.eval (by decide))]; exact run_load_blk (Hbtq.out.ext hyu) Try.underlying25 rfl (by kernel_rfl)))
                  case o6 =>
                    intro f a u h hfi hp hq
                    have hyu : Ext wr u := ((Ext.refl wr).drew).trans h.ext
                    exact h.callG rfl (wanted_yes (g := 2) (d' := 82) rfl rfl (h.at_ 2 rfl (pre_of hp 2 rfl))) 86 rfl (by change 86 < 100; decide) rfl _ rfl 15 #[.tmp 85] #[25] _ rfl (by kernel_rfl) (by rw [arr1, h.at_ 5 rfl (pre_of hp 5 rfl)]) (rtree_calls t pa ka k K pc kc u (Hh3.out.ext (hx3q.trans hyu)) hgt)
                  case o7 =>
                    intro f a u h hfi hp hq
                    have q84 := h.att 4 rfl (pre_of hp 4 rfl)
                    have q86 := h.att 6 rfl (pre_of hp 6 rfl)
                    exact h.yieldG rfl (wanted_yes (g := 2) (d' := 82) rfl rfl (h.at_ 2 rfl (pre_of hp 2 rfl))) 87 rfl (by change 87 < 100; decide) rfl _ rfl (by go_simp)
                  case o8 =>
                    intro f a u h hfi hp hq
                    have q82 := h.att 2 rfl (pre_of hp 2 rfl)
                    have q87 := h.att 7 rfl (pre_of hp 7 rfl)
                    exact h.yieldG rfl (wanted_none rfl) 88 rfl (by change 88 < 100; decide) rfl _ rfl (by go_simp)
                  case o9 =>
                    intro f a u h hfi hp hq
                    have q88 := h.att 8 rfl (pre_of hp 8 rfl)
                    exact h.yieldG rfl (wanted_none rfl) 89 rfl (by change 89 < 100; decide) rfl _ rfl (by go_simp)
                  case o10 =>
                    intro f a u h hfi hp hq
                    have q10 : a.tmps[10]?.getD undef = .int .i64 0 := h.agree.att (by decide)
                    exact h.yieldG rfl (wanted_yes (g := 9) (d' := 89) rfl rfl (h.at_ 9 rfl (pre_of hp 9 rfl))) 90 rfl (by change 90 < 100; decide) rfl _ rfl (by go_simp)
                  case o11 =>
                    intro f a u h hfi hp hq
                    have q90 := h.att 10 rfl (pre_of hp 10 rfl)
                    exact h.yieldG rfl (wanted_yes (g := 9) (d' := 89) rfl rfl (h.at_ 9 rfl (pre_of hp 9 rfl))) 91 rfl (by change 91 < 100; decide) rfl _ rfl (by go_simp)
                  case o12 =>
                    intro f a u h hfi hp hq
                    have q91 := h.att 11 rfl (pre_of hp 11 rfl)
                    exact h.yieldG rfl (wanted_yes (g := 9) (d' := 89) rfl rfl (h.at_ 9 rfl (pre_of hp 9 rfl))) 92 rfl (by change 92 < 100; decide) rfl _ rfl (by go_simp)
                  case o13 =>
                    intro f a u h hfi hp hq
                    have q9 : a.tmps[9]?.getD undef = .slice A10 n10 k10 := h.agree.att (by decide)
                    exact h.yieldG rfl (wanted_yes (g := 12) (d' := 92) rfl rfl (h.at_ 12 rfl (pre_of hp 12 rfl))) 93 rfl (by change 93 < 100; decide) rfl _ rfl (by go_simp)
                  case o14 =>
                    intro f a u h hfi hp hq
                    have hyu : Ext wr u := ((Ext.refl wr).drew).trans h.ext
                    exact h.yieldG rfl (wanted_yes (g := 12) (d' := 92) rfl rfl (h.at_ 12 rfl (pre_of hp 12 rfl))) 94 rfl (by change 94 < 100; decide) rfl _ rfl (run_of_sem rfl (by rw [h.at_ 13 rfl (pre_of hp 13 rfl)]; exact conv_str (P := Try.prog) Try.underlying35 Try.underlying5 Try.underlying9 HN10.out (HP10.out.ext hyu).cells))
                  case o15 =>
                    intro f a u h hfi hp hq
                    have hyu : Ext wr u := ((Ext.refl wr).drew).trans h.ext
                    exact h.yieldG rfl (wanted_yes (g := 12) (d' := 92) rfl rfl (h.at_ 12 rfl (pre_of hp 12 rfl))) 95 rfl (by change 95 < 100; decide) rfl _ rfl (run_of_sem rfl (by rw [(show a.eval (.tmp 3) = .pointer (some ⟨g + 1, 0, none⟩) from h.agree.eval (by decide))]; exact run_load_blk (Hbcq.out.ext hyu) Try.underlying31 rfl (by rw [List.size_toArray, hlen]; kernel_rfl)))
                  case o16 =>
                    intro f a u h hfi hp hq
                    have hyu : Ext wr u := ((Ext.refl wr).drew).trans h.ext
                    exact h.callG rfl (wanted_yes (g := 12) (d' := 92) rfl rfl (h.at_ 12 rfl (pre_of hp 12 rfl))) 96 rfl (by change 96 < 100; decide) rfl _ rfl 16 #[.tmp 95] #[31] _ rfl (by kernel_rfl) (by rw [arr1, h.at_ 15 rfl (pre_of hp 15 rfl)]) (rcommit_calls c qa m qc u (Hc3.out.ext (hx3q.trans hyu)) hgc)
                  case o17 =>
                    intro f a u h hfi hp hq
                    have q94 := h.att 14 rfl (pre_of hp 14 rfl)
                    have q96 := h.att 16 rfl (pre_of hp 16 rfl)
                    exact h.yieldG rfl (wanted_yes (g := 12) (d' := 92) rfl rfl (h.at_ 12 rfl (pre_of hp 12 rfl))) 97 rfl (by change 97 < 100; decide) rfl _ rfl (by go_simp)
                  case o18 =>
                    intro f a u h hfi hp hq
                    have q92 := h.att 12 rfl (pre_of hp 12 rfl)
                    have q97 := h.att 17 rfl (pre_of hp 17 rfl)
                    exact h.yieldG rfl (wanted_yes (g := 9) (d' := 89) rfl rfl (h.at_ 9 rfl (pre_of hp 9 rfl))) 98 rfl (by change 98 < 100; decide) rfl _ rfl (by go_simp)
                  case o19 =>
                    intro f a u h hfi hp hq
                    have q89 := h.att 9 rfl (pre_of hp 9 rfl)
                    have q98 := h.att 18 rfl (pre_of hp 18 rfl)
                    exact h.yieldG rfl (wanted_none rfl) 99 rfl (by change 99 < 100; decide) rfl _ rfl (by go_simp)
                  case o20 =>
                    intro f a u h hfi hp hq
                    have q99 := h.att 19 rfl (pre_of hp 19 rfl)
                    exact h.yieldG rfl (wanted_none rfl) 4 rfl (by change 4 < 100; decide) rfl _ rfl (by go_simp)
                · intro f a u h hall hfar
                  have hyu : Ext wr u := ((Ext.refl wr).drew).trans h.ext
                  have e4 := h.at_ 20 rfl (hall 20 (by decide))
                  have hag := h.agree.out
                  simp only [List.foldl_cons, List.foldl_nil, Act.put, List.setIfInBounds_toArray, List.set_cons_zero, List.set_cons_succ, e4] at hag
                  generalize a.eval (.tmp 80) = y80 at hag
                  generalize a.eval (.tmp 81) = y81 at hag
                  generalize a.eval (.tmp 82) = y82 at hag
                  generalize a.eval (.tmp 83) = y83 at hag
                  generalize a.eval (.tmp 84) = y84 at hag
                  generalize a.eval (.tmp 85) = y85 at hag
                  generalize a.eval (.tmp 86) = y86 at hag
                  generalize a.eval (.tmp 87) = y87 at hag
                  generalize a.eval (.tmp 88) = y88 at hag
                  generalize a.eval (.tmp 89) = y89 at hag
                  generalize a.eval (.tmp 90) = y90 at hag
                  generalize a.eval (.tmp 91) = y91 at hag
                  generalize a.eval (.tmp 92) = y92 at hag
                  generalize a.eval (.tmp 93) = y93 at hag
                  generalize a.eval (.tmp 94) = y94 at hag
                  generalize a.eval (.tmp 95) = y95 at hag
                  generalize a.eval (.tmp 96) = y96 at hag
                  generalize a.eval (.tmp 97) = y97 at hag
                  generalize a.eval (.tmp 98) = y98 at hag
                  generalize a.eval (.tmp 99) = y99 at hag
                  clear h hall hfar e4
                  subst hag
                  go_wp2
                  go_ret
                  exact ⟨rfl, hywq.trans hyu⟩
end Go.Proofs.Ythepbcomeimcnaa
