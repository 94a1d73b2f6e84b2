/- The walk of object.GoodCommit. Printed by wip/mkobjgoodc.py. -/
import Derived.Test.YtcnhbodemabbdaaDoorQ34
import Derived.Test.YtcnhbodemabbdaaDoorQ38
import Derived.Test.YtcnhbodemabbdaaDoorQ36
import Derived.Test.YtcnhbodemabbdaaDoorQ29
namespace Go.Proofs.YtcnhbodemabbdaaDoor
open Go.RowKit
set_option linter.unusedVariables false

theorem cm_cells {w : World} {g : Nat} {c : Cm} {qa : Option Addr} {Q qc : Nat} (h : Blk w g 42 (cmC c qa Q qc).toArray) (hr : c.root.length = 33) :
    Cells w (some ⟨g, 0, none⟩) (bv c.root) ∧ w.cell? ⟨g, 33, none⟩ = some (.slice qa Q qc) ∧ w.cell? ⟨g, 34, none⟩ = some (.string c.note) ∧ w.cell? ⟨g, 35, none⟩ = some (.int .i64 c.num) := by
  have hl : (bv c.root).length = 33 := by rw [bv_len, hr]
  have hc : ∀ j v, (cmC c qa Q qc)[j]? = some v → w.cell? ⟨g, j, none⟩ = some v := fun j v hv => by
    rw [h.cell, ← Array.getElem?_toList, List.toList_toArray]
    exact hv
  refine ⟨fun j v hv => ⟨_, rfl, ?_⟩, hc 33 _ ?_, hc 34 _ ?_, hc 35 _ ?_⟩
  · rw [add_new]
    refine hc j v ?_
    unfold cmC
    rw [List.getElem?_append_left (List.getElem?_eq_some_iff.1 hv).1]
    exact hv
  · unfold cmC; rw [List.getElem?_append_right (by omega), hl]; rfl
  · unfold cmC; rw [List.getElem?_append_right (by omega), hl]; rfl
  · unfold cmC; rw [List.getElem?_append_right (by omega), hl]; rfl
theorem id_box {w : World} {g : Nat} {b : List UInt8} (h : Blk w g 27 (bv b).toArray) : Cells w (some ⟨g, 0, none⟩) (bv b) := by
  have := h.cells
  rwa [List.toList_toArray] at this
theorem id_row {w : World} {a : Option Addr} {ps : List (List UInt8)} (h : Row w a 33 (ps.map bv)) {i : Nat} (hi : i < ps.length) :
    ∃ x, a = some x ∧ Cells w (some (x.add (i * 33))) (bv ps[i]) ∧ ∀ j v, (bv ps[i])[j]? = some v → w.cell? ((x.add (i * 33)).add j) = some v := by
  obtain ⟨x, hx, hc⟩ := h.get (i := i) (by simpa using hi)
  rw [List.getElem_map] at hc
  exact ⟨x, hx, fun j v hj => ⟨_, rfl, hc j v hj⟩, hc⟩
theorem paAt_get {ps : List (List UInt8)} {i : Nat} (h : i < ps.length) : ps.getD i [] = ps[i] := by rw [List.getD_eq_getElem?_getD, List.getElem?_eq_getElem h]; rfl

set_option maxRecDepth 100000 in
set_option maxHeartbeats 8000000 in
theorem goodCommit_1 (c : Cm) (qa : Option Addr) (Q qc : Nat) (w : World) (h : CmAt w c qa Q qc) (hf : (2 : Int) < (Q : Int)) :
    Calls Tryd.prog 66 #[cma c qa Q qc] w fun e w' => e = .returned (.bool false) ∧ Ext w w' := by
  have Hh := Lib.hid h
  have HR := Lib.hid h.hr
  have hn0 := h.n0
  have hn1 := h.n1
  have hsn := h.sn
  have hbq := h.bq
  clear h
  go_enter Tryd.func66, Tryd.ntmps66
  have hbox : Blk (w.alloc (.cells (cmC c qa Q qc).toArray 42)) w.heap.size 42 (cmC c qa Q qc).toArray := Blk.new w _ _
  have hx0 : Ext w (w.alloc (.cells (cmC c qa Q qc).toArray 42)) := (Ext.refl _).alloc _
  have Hbox := Lib.hid hbox
  have HGR := fun w' => idgood_calls c.root w' HR.out
  unfold idv at HGR
  clear hbox
  go_upto_region 1 with (fail)
  refine wp_region_text (RInv [5, 6, 7, 8, 9, 10, 11, 12, 13, 14, 15, 16, 17, 18, 19, 20, 21, 22, 23, 24, 25, 26, 27, 28, 29, 30] _ (w.alloc (.cells (cmC c qa Q qc).toArray 42)) [(0, 5, .pointer (some ⟨w.heap.size, 33, none⟩)), (1, 6, .slice qa Q qc), (2, 7, .int .i64 (Q : Int)), (3, 8, .bool true), (4, 9, .bool true), (5, 10, undef), (6, 11, undef), (7, 12, undef), (8, 13, undef), (9, 14, .bool true), (10, 15, .bool true), (11, 16, undef), (12, 17, undef), (13, 18, undef), (14, 19, .bool true), (15, 20, .bool true), (16, 21, undef), (17, 22, undef), (18, 23, undef), (19, 24, .bool true), (20, 25, .bool true), (21, 26, undef), (22, 27, undef), (23, 28, undef), (24, 29, undef), (25, 30, .bool true)] []) (by kernel_rfl) RInv.start ?_ ?_
  · refine ⟨?o0, ?o1, ?o2, ?o3, ?o4, ?o5, ?o6, ?o7, ?o8, ?o9, ?o10, ?o11, ?o12, ?o13, ?o14, ?o15, ?o16, ?o17, ?o18, ?o19, ?o20, ?o21, ?o22, ?o23, ?o24, ?o25, trivial⟩
    case o0 =>
      intro f a u h hfi hp hq
      exact h.yieldW rfl (wanted_none rfl) 5 rfl (by change 5 < 65; decide) rfl _ rfl (run_of_sem rfl (by rw [(show a.eval (.tmp 1) = .pointer (some ⟨w.heap.size, 0, none⟩) from h.agree.eval (by decide))]; exact f_cm1 _ _))
    case o1 =>
      intro f a u h hfi hp hq
      have hyu : Ext (w.alloc (.cells (cmC c qa Q qc).toArray 42)) u := h.ext
      exact h.yieldW rfl (wanted_none rfl) 6 rfl (by change 6 < 65; decide) rfl _ rfl (run_of_sem rfl (by rw [h.at_ 0 rfl (pre_of hp 0 rfl)]; exact ld_ids (cm_cells (Hbox.out.ext hyu) HR.out).2.1))
    case o2 =>
      intro f a u h hfi hp hq
      have q6 := h.att 1 rfl (pre_of hp 1 rfl)
      exact h.yieldW rfl (wanted_none rfl) 7 rfl (by change 7 < 65; decide) rfl _ rfl (by go_simp)
    case o3 =>
      intro f a u h hfi hp hq
      have q7 := h.att 2 rfl (pre_of hp 2 rfl)
      exact h.yieldW rfl (wanted_none rfl) 8 rfl (by change 8 < 65; decide) rfl _ rfl (by go_simp)
    case o4 =>
      intro f a u h hfi hp hq
      have q8 := h.att 3 rfl (pre_of hp 3 rfl)
      exact h.yieldW rfl (wanted_none rfl) 9 rfl (by change 9 < 65; decide) rfl _ rfl (by go_simp)
    case o5 =>
      intro f a u h hfi hp hq
      exact h.skip rfl (wanted_not (g := 4) (d' := 9) rfl rfl (h.at_ 4 rfl (pre_of hp 4 rfl)) rfl) 10 rfl (by change 10 < 65; decide) rfl rfl
    case o6 =>
      intro f a u h hfi hp hq
      exact h.skip rfl (wanted_not (g := 4) (d' := 9) rfl rfl (h.at_ 4 rfl (pre_of hp 4 rfl)) rfl) 11 rfl (by change 11 < 65; decide) rfl rfl
    case o7 =>
      intro f a u h hfi hp hq
      exact h.skip rfl (wanted_not (g := 4) (d' := 9) rfl rfl (h.at_ 4 rfl (pre_of hp 4 rfl)) rfl) 12 rfl (by change 12 < 65; decide) rfl rfl
    case o8 =>
      intro f a u h hfi hp hq
      exact h.skip rfl (wanted_not (g := 4) (d' := 9) rfl rfl (h.at_ 4 rfl (pre_of hp 4 rfl)) rfl) 13 rfl (by change 13 < 65; decide) rfl rfl
    case o9 =>
      intro f a u h hfi hp hq
      have q9 := h.att 4 rfl (pre_of hp 4 rfl)
      have q13 := h.att 8 rfl (pre_of hp 8 rfl)
      exact h.yieldW rfl (wanted_none rfl) 14 rfl (by change 14 < 65; decide) rfl _ rfl (by go_simp)
    case o10 =>
      intro f a u h hfi hp hq
      have q14 := h.att 9 rfl (pre_of hp 9 rfl)
      exact h.yieldW rfl (wanted_none rfl) 15 rfl (by change 15 < 65; decide) rfl _ rfl (by go_simp)
    case o11 =>
      intro f a u h hfi hp hq
      exact h.skip rfl (wanted_not (g := 10) (d' := 15) rfl rfl (h.at_ 10 rfl (pre_of hp 10 rfl)) rfl) 16 rfl (by change 16 < 65; decide) rfl rfl
    case o12 =>
      intro f a u h hfi hp hq
      exact h.skip rfl (wanted_not (g := 10) (d' := 15) rfl rfl (h.at_ 10 rfl (pre_of hp 10 rfl)) rfl) 17 rfl (by change 17 < 65; decide) rfl rfl
    case o13 =>
      intro f a u h hfi hp hq
      exact h.skip rfl (wanted_not (g := 10) (d' := 15) rfl rfl (h.at_ 10 rfl (pre_of hp 10 rfl)) rfl) 18 rfl (by change 18 < 65; decide) rfl rfl
    case o14 =>
      intro f a u h hfi hp hq
      have q15 := h.att 10 rfl (pre_of hp 10 rfl)
      have q18 := h.att 13 rfl (pre_of hp 13 rfl)
      exact h.yieldW rfl (wanted_none rfl) 19 rfl (by change 19 < 65; decide) rfl _ rfl (by go_simp)
    case o15 =>
      intro f a u h hfi hp hq
      have q19 := h.att 14 rfl (pre_of hp 14 rfl)
      exact h.yieldW rfl (wanted_none rfl) 20 rfl (by change 20 < 65; decide) rfl _ rfl (by go_simp)
    case o16 =>
      intro f a u h hfi hp hq
      exact h.skip rfl (wanted_not (g := 15) (d' := 20) rfl rfl (h.at_ 15 rfl (pre_of hp 15 rfl)) rfl) 21 rfl (by change 21 < 65; decide) rfl rfl
    case o17 =>
      intro f a u h hfi hp hq
      exact h.skip rfl (wanted_not (g := 15) (d' := 20) rfl rfl (h.at_ 15 rfl (pre_of hp 15 rfl)) rfl) 22 rfl (by change 22 < 65; decide) rfl rfl
    case o18 =>
      intro f a u h hfi hp hq
      exact h.skip rfl (wanted_not (g := 15) (d' := 20) rfl rfl (h.at_ 15 rfl (pre_of hp 15 rfl)) rfl) 23 rfl (by change 23 < 65; decide) rfl rfl
    case o19 =>
      intro f a u h hfi hp hq
      have q20 := h.att 15 rfl (pre_of hp 15 rfl)
      have q23 := h.att 18 rfl (pre_of hp 18 rfl)
      exact h.yieldW rfl (wanted_none rfl) 24 rfl (by change 24 < 65; decide) rfl _ rfl (by go_simp)
    case o20 =>
      intro f a u h hfi hp hq
      have q24 := h.att 19 rfl (pre_of hp 19 rfl)
      exact h.yieldW rfl (wanted_none rfl) 25 rfl (by change 25 < 65; decide) rfl _ rfl (by go_simp)
    case o21 =>
      intro f a u h hfi hp hq
      exact h.skip rfl (wanted_not (g := 20) (d' := 25) rfl rfl (h.at_ 20 rfl (pre_of hp 20 rfl)) rfl) 26 rfl (by change 26 < 65; decide) rfl rfl
    case o22 =>
      intro f a u h hfi hp hq
      exact h.skip rfl (wanted_not (g := 20) (d' := 25) rfl rfl (h.at_ 20 rfl (pre_of hp 20 rfl)) rfl) 27 rfl (by change 27 < 65; decide) rfl rfl
    case o23 =>
      intro f a u h hfi hp hq
      exact h.skip rfl (wanted_not (g := 20) (d' := 25) rfl rfl (h.at_ 20 rfl (pre_of hp 20 rfl)) rfl) 28 rfl (by change 28 < 65; decide) rfl rfl
    case o24 =>
      intro f a u h hfi hp hq
      exact h.skip rfl (wanted_not (g := 20) (d' := 25) rfl rfl (h.at_ 20 rfl (pre_of hp 20 rfl)) rfl) 29 rfl (by change 29 < 65; decide) rfl rfl
    case o25 =>
      intro f a u h hfi hp hq
      have q25 := h.att 20 rfl (pre_of hp 20 rfl)
      have q29 := h.att 24 rfl (pre_of hp 24 rfl)
      exact h.yieldW rfl (wanted_none rfl) 30 rfl (by change 30 < 65; decide) rfl _ rfl (by go_simp)
  · intro f a u h hall hfar
    have hag := h.agree.out
    have e30 := h.at_ 25 rfl (hall 25 (by decide))
    have hye := hx0.trans h.ext
    simp only [List.foldl_cons, List.foldl_nil, Act.put, List.setIfInBounds_toArray, List.set_cons_zero, List.set_cons_succ, e30] at hag
    generalize a.eval (.tmp 5) = y5 at hag
    generalize a.eval (.tmp 6) = y6 at hag
    generalize a.eval (.tmp 7) = y7 at hag
    generalize a.eval (.tmp 8) = y8 at hag
    generalize a.eval (.tmp 9) = y9 at hag
    generalize a.eval (.tmp 10) = y10 at hag
    generalize a.eval (.tmp 11) = y11 at hag
    generalize a.eval (.tmp 12) = y12 at hag
    generalize a.eval (.tmp 13) = y13 at hag
    generalize a.eval (.tmp 14) = y14 at hag
    generalize a.eval (.tmp 15) = y15 at hag
    generalize a.eval (.tmp 16) = y16 at hag
    generalize a.eval (.tmp 17) = y17 at hag
    generalize a.eval (.tmp 18) = y18 at hag
    generalize a.eval (.tmp 19) = y19 at hag
    generalize a.eval (.tmp 20) = y20 at hag
    generalize a.eval (.tmp 21) = y21 at hag
    generalize a.eval (.tmp 22) = y22 at hag
    generalize a.eval (.tmp 23) = y23 at hag
    generalize a.eval (.tmp 24) = y24 at hag
    generalize a.eval (.tmp 25) = y25 at hag
    generalize a.eval (.tmp 26) = y26 at hag
    generalize a.eval (.tmp 27) = y27 at hag
    generalize a.eval (.tmp 28) = y28 at hag
    generalize a.eval (.tmp 29) = y29 at hag
    clear h hall hfar e30
    subst hag
    go_wp2
    go_ret
    exact ⟨rfl, hye⟩

set_option maxRecDepth 100000 in
set_option maxHeartbeats 8000000 in
theorem goodCommit_2 (c : Cm) (qa : Option Addr) (Q qc : Nat) (w : World) (h : CmAt w c qa Q qc) (h1 : ¬ (2 : Int) < (Q : Int)) (hf : (32 : Int) < (c.note.size : Int)) :
    Calls Tryd.prog 66 #[cma c qa Q qc] w fun e w' => e = .returned (.bool false) ∧ Ext w w' := by
  have Hh := Lib.hid h
  have HR := Lib.hid h.hr
  have hn0 := h.n0
  have hn1 := h.n1
  have hsn := h.sn
  have hbq := h.bq
  clear h
  go_enter Tryd.func66, Tryd.ntmps66
  have hbox : Blk (w.alloc (.cells (cmC c qa Q qc).toArray 42)) w.heap.size 42 (cmC c qa Q qc).toArray := Blk.new w _ _
  have hx0 : Ext w (w.alloc (.cells (cmC c qa Q qc).toArray 42)) := (Ext.refl _).alloc _
  have Hbox := Lib.hid hbox
  have HGR := fun w' => idgood_calls c.root w' HR.out
  unfold idv at HGR
  clear hbox
  go_upto_region 1 with (fail)
  refine wp_region_text (RInv [5, 6, 7, 8, 9, 10, 11, 12, 13, 14, 15, 16, 17, 18, 19, 20, 21, 22, 23, 24, 25, 26, 27, 28, 29, 30] _ (w.alloc (.cells (cmC c qa Q qc).toArray 42)) [(0, 5, .pointer (some ⟨w.heap.size, 33, none⟩)), (1, 6, .slice qa Q qc), (2, 7, .int .i64 (Q : Int)), (3, 8, .bool false), (4, 9, .bool false), (5, 10, .pointer (some ⟨w.heap.size, 34, none⟩)), (6, 11, .string c.note), (7, 12, .int .i64 (c.note.size : Int)), (8, 13, .bool true), (9, 14, .bool true), (10, 15, .bool true), (11, 16, undef), (12, 17, undef), (13, 18, undef), (14, 19, .bool true), (15, 20, .bool true), (16, 21, undef), (17, 22, undef), (18, 23, undef), (19, 24, .bool true), (20, 25, .bool true), (21, 26, undef), (22, 27, undef), (23, 28, undef), (24, 29, undef), (25, 30, .bool true)] []) (by kernel_rfl) RInv.start ?_ ?_
  · refine ⟨?o0, ?o1, ?o2, ?o3, ?o4, ?o5, ?o6, ?o7, ?o8, ?o9, ?o10, ?o11, ?o12, ?o13, ?o14, ?o15, ?o16, ?o17, ?o18, ?o19, ?o20, ?o21, ?o22, ?o23, ?o24, ?o25, trivial⟩
    case o0 =>
      intro f a u h hfi hp hq
      exact h.yieldW rfl (wanted_none rfl) 5 rfl (by change 5 < 65; decide) rfl _ rfl (run_of_sem rfl (by rw [(show a.eval (.tmp 1) = .pointer (some ⟨w.heap.size, 0, none⟩) from h.agree.eval (by decide))]; exact f_cm1 _ _))
    case o1 =>
      intro f a u h hfi hp hq
      have hyu : Ext (w.alloc (.cells (cmC c qa Q qc).toArray 42)) u := h.ext
      exact h.yieldW rfl (wanted_none rfl) 6 rfl (by change 6 < 65; decide) rfl _ rfl (run_of_sem rfl (by rw [h.at_ 0 rfl (pre_of hp 0 rfl)]; exact ld_ids (cm_cells (Hbox.out.ext hyu) HR.out).2.1))
    case o2 =>
      intro f a u h hfi hp hq
      have q6 := h.att 1 rfl (pre_of hp 1 rfl)
      exact h.yieldW rfl (wanted_none rfl) 7 rfl (by change 7 < 65; decide) rfl _ rfl (by go_simp)
    case o3 =>
      intro f a u h hfi hp hq
      have q7 := h.att 2 rfl (pre_of hp 2 rfl)
      exact h.yieldW rfl (wanted_none rfl) 8 rfl (by change 8 < 65; decide) rfl _ rfl (by go_simp)
    case o4 =>
      intro f a u h hfi hp hq
      have q8 := h.att 3 rfl (pre_of hp 3 rfl)
      exact h.yieldW rfl (wanted_none rfl) 9 rfl (by change 9 < 65; decide) rfl _ rfl (by go_simp)
    case o5 =>
      intro f a u h hfi hp hq
      exact h.yieldW rfl (wanted_yes (g := 4) (d' := 9) rfl rfl (h.at_ 4 rfl (pre_of hp 4 rfl))) 10 rfl (by change 10 < 65; decide) rfl _ rfl (run_of_sem rfl (by rw [(show a.eval (.tmp 1) = .pointer (some ⟨w.heap.size, 0, none⟩) from h.agree.eval (by decide))]; exact f_cm2 _ _))
    case o6 =>
      intro f a u h hfi hp hq
      have hyu : Ext (w.alloc (.cells (cmC c qa Q qc).toArray 42)) u := h.ext
      exact h.yieldW rfl (wanted_yes (g := 4) (d' := 9) rfl rfl (h.at_ 4 rfl (pre_of hp 4 rfl))) 11 rfl (by change 11 < 65; decide) rfl _ rfl (run_of_sem rfl (by rw [h.at_ 5 rfl (pre_of hp 5 rfl)]; exact ld_str (cm_cells (Hbox.out.ext hyu) HR.out).2.2.1))
    case o7 =>
      intro f a u h hfi hp hq
      have q11 := h.att 6 rfl (pre_of hp 6 rfl)
      exact h.yieldW rfl (wanted_yes (g := 4) (d' := 9) rfl rfl (h.at_ 4 rfl (pre_of hp 4 rfl))) 12 rfl (by change 12 < 65; decide) rfl _ rfl (by go_simp)
    case o8 =>
      intro f a u h hfi hp hq
      have q12 := h.att 7 rfl (pre_of hp 7 rfl)
      exact h.yieldW rfl (wanted_yes (g := 4) (d' := 9) rfl rfl (h.at_ 4 rfl (pre_of hp 4 rfl))) 13 rfl (by change 13 < 65; decide) rfl _ rfl (by go_simp)
    case o9 =>
      intro f a u h hfi hp hq
      have q9 := h.att 4 rfl (pre_of hp 4 rfl)
      have q13 := h.att 8 rfl (pre_of hp 8 rfl)
      exact h.yieldW rfl (wanted_none rfl) 14 rfl (by change 14 < 65; decide) rfl _ rfl (by go_simp)
    case o10 =>
      intro f a u h hfi hp hq
      have q14 := h.att 9 rfl (pre_of hp 9 rfl)
      exact h.yieldW rfl (wanted_none rfl) 15 rfl (by change 15 < 65; decide) rfl _ rfl (by go_simp)
    case o11 =>
      intro f a u h hfi hp hq
      exact h.skip rfl (wanted_not (g := 10) (d' := 15) rfl rfl (h.at_ 10 rfl (pre_of hp 10 rfl)) rfl) 16 rfl (by change 16 < 65; decide) rfl rfl
    case o12 =>
      intro f a u h hfi hp hq
      exact h.skip rfl (wanted_not (g := 10) (d' := 15) rfl rfl (h.at_ 10 rfl (pre_of hp 10 rfl)) rfl) 17 rfl (by change 17 < 65; decide) rfl rfl
    case o13 =>
      intro f a u h hfi hp hq
      exact h.skip rfl (wanted_not (g := 10) (d' := 15) rfl rfl (h.at_ 10 rfl (pre_of hp 10 rfl)) rfl) 18 rfl (by change 18 < 65; decide) rfl rfl
    case o14 =>
      intro f a u h hfi hp hq
      have q15 := h.att 10 rfl (pre_of hp 10 rfl)
      have q18 := h.att 13 rfl (pre_of hp 13 rfl)
      exact h.yieldW rfl (wanted_none rfl) 19 rfl (by change 19 < 65; decide) rfl _ rfl (by go_simp)
    case o15 =>
      intro f a u h hfi hp hq
      have q19 := h.att 14 rfl (pre_of hp 14 rfl)
      exact h.yieldW rfl (wanted_none rfl) 20 rfl (by change 20 < 65; decide) rfl _ rfl (by go_simp)
    case o16 =>
      intro f a u h hfi hp hq
      exact h.skip rfl (wanted_not (g := 15) (d' := 20) rfl rfl (h.at_ 15 rfl (pre_of hp 15 rfl)) rfl) 21 rfl (by change 21 < 65; decide) rfl rfl
    case o17 =>
      intro f a u h hfi hp hq
      exact h.skip rfl (wanted_not (g := 15) (d' := 20) rfl rfl (h.at_ 15 rfl (pre_of hp 15 rfl)) rfl) 22 rfl (by change 22 < 65; decide) rfl rfl
    case o18 =>
      intro f a u h hfi hp hq
      exact h.skip rfl (wanted_not (g := 15) (d' := 20) rfl rfl (h.at_ 15 rfl (pre_of hp 15 rfl)) rfl) 23 rfl (by change 23 < 65; decide) rfl rfl
    case o19 =>
      intro f a u h hfi hp hq
      have q20 := h.att 15 rfl (pre_of hp 15 rfl)
      have q23 := h.att 18 rfl (pre_of hp 18 rfl)
      exact h.yieldW rfl (wanted_none rfl) 24 rfl (by change 24 < 65; decide) rfl _ rfl (by go_simp)
    case o20 =>
      intro f a u h hfi hp hq
      have q24 := h.att 19 rfl (pre_of hp 19 rfl)
      exact h.yieldW rfl (wanted_none rfl) 25 rfl (by change 25 < 65; decide) rfl _ rfl (by go_simp)
    case o21 =>
      intro f a u h hfi hp hq
      exact h.skip rfl (wanted_not (g := 20) (d' := 25) rfl rfl (h.at_ 20 rfl (pre_of hp 20 rfl)) rfl) 26 rfl (by change 26 < 65; decide) rfl rfl
    case o22 =>
      intro f a u h hfi hp hq
      exact h.skip rfl (wanted_not (g := 20) (d' := 25) rfl rfl (h.at_ 20 rfl (pre_of hp 20 rfl)) rfl) 27 rfl (by change 27 < 65; decide) rfl rfl
    case o23 =>
      intro f a u h hfi hp hq
      exact h.skip rfl (wanted_not (g := 20) (d' := 25) rfl rfl (h.at_ 20 rfl (pre_of hp 20 rfl)) rfl) 28 rfl (by change 28 < 65; decide) rfl rfl
    case o24 =>
      intro f a u h hfi hp hq
      exact h.skip rfl (wanted_not (g := 20) (d' := 25) rfl rfl (h.at_ 20 rfl (pre_of hp 20 rfl)) rfl) 29 rfl (by change 29 < 65; decide) rfl rfl
    case o25 =>
      intro f a u h hfi hp hq
      have q25 := h.att 20 rfl (pre_of hp 20 rfl)
      have q29 := h.att 24 rfl (pre_of hp 24 rfl)
      exact h.yieldW rfl (wanted_none rfl) 30 rfl (by change 30 < 65; decide) rfl _ rfl (by go_simp)
  · intro f a u h hall hfar
    have hag := h.agree.out
    have e30 := h.at_ 25 rfl (hall 25 (by decide))
    have hye := hx0.trans h.ext
    simp only [List.foldl_cons, List.foldl_nil, Act.put, List.setIfInBounds_toArray, List.set_cons_zero, List.set_cons_succ, e30] at hag
    generalize a.eval (.tmp 5) = y5 at hag
    generalize a.eval (.tmp 6) = y6 at hag
    generalize a.eval (.tmp 7) = y7 at hag
    generalize a.eval (.tmp 8) = y8 at hag
    generalize a.eval (.tmp 9) = y9 at hag
    generalize a.eval (.tmp 10) = y10 at hag
    generalize a.eval (.tmp 11) = y11 at hag
    generalize a.eval (.tmp 12) = y12 at hag
    generalize a.eval (.tmp 13) = y13 at hag
    generalize a.eval (.tmp 14) = y14 at hag
    generalize a.eval (.tmp 15) = y15 at hag
    generalize a.eval (.tmp 16) = y16 at hag
    generalize a.eval (.tmp 17) = y17 at hag
    generalize a.eval (.tmp 18) = y18 at hag
    generalize a.eval (.tmp 19) = y19 at hag
    generalize a.eval (.tmp 20) = y20 at hag
    generalize a.eval (.tmp 21) = y21 at hag
    generalize a.eval (.tmp 22) = y22 at hag
    generalize a.eval (.tmp 23) = y23 at hag
    generalize a.eval (.tmp 24) = y24 at hag
    generalize a.eval (.tmp 25) = y25 at hag
    generalize a.eval (.tmp 26) = y26 at hag
    generalize a.eval (.tmp 27) = y27 at hag
    generalize a.eval (.tmp 28) = y28 at hag
    generalize a.eval (.tmp 29) = y29 at hag
    clear h hall hfar e30
    subst hag
    go_wp2
    go_ret
    exact ⟨rfl, hye⟩

set_option maxRecDepth 100000 in
set_option maxHeartbeats 8000000 in
theorem goodCommit_3 (c : Cm) (qa : Option Addr) (Q qc : Nat) (w : World) (h : CmAt w c qa Q qc) (h1 : ¬ (2 : Int) < (Q : Int)) (h2 : ¬ (32 : Int) < (c.note.size : Int)) (hf : c.num < 1) :
    Calls Tryd.prog 66 #[cma c qa Q qc] w fun e w' => e = .returned (.bool false) ∧ Ext w w' := by
  have Hh := Lib.hid h
  have HR := Lib.hid h.hr
  have hn0 := h.n0
  have hn1 := h.n1
  have hsn := h.sn
  have hbq := h.bq
  clear h
  go_enter Tryd.func66, Tryd.ntmps66
  have hbox : Blk (w.alloc (.cells (cmC c qa Q qc).toArray 42)) w.heap.size 42 (cmC c qa Q qc).toArray := Blk.new w _ _
  have hx0 : Ext w (w.alloc (.cells (cmC c qa Q qc).toArray 42)) := (Ext.refl _).alloc _
  have Hbox := Lib.hid hbox
  have HGR := fun w' => idgood_calls c.root w' HR.out
  unfold idv at HGR
  clear hbox
  go_upto_region 1 with (fail)
  refine wp_region_text (RInv [5, 6, 7, 8, 9, 10, 11, 12, 13, 14, 15, 16, 17, 18, 19, 20, 21, 22, 23, 24, 25, 26, 27, 28, 29, 30] _ (w.alloc (.cells (cmC c qa Q qc).toArray 42)) [(0, 5, .pointer (some ⟨w.heap.size, 33, none⟩)), (1, 6, .slice qa Q qc), (2, 7, .int .i64 (Q : Int)), (3, 8, .bool false), (4, 9, .bool false), (5, 10, .pointer (some ⟨w.heap.size, 34, none⟩)), (6, 11, .string c.note), (7, 12, .int .i64 (c.note.size : Int)), (8, 13, .bool false), (9, 14, .bool false), (10, 15, .bool false), (11, 16, .pointer (some ⟨w.heap.size, 35, none⟩)), (12, 17, .int .i64 c.num), (13, 18, .bool true), (14, 19, .bool true), (15, 20, .bool true), (16, 21, undef), (17, 22, undef), (18, 23, undef), (19, 24, .bool true), (20, 25, .bool true), (21, 26, undef), (22, 27, undef), (23, 28, undef), (24, 29, undef), (25, 30, .bool true)] []) (by kernel_rfl) RInv.start ?_ ?_
  · refine ⟨?o0, ?o1, ?o2, ?o3, ?o4, ?o5, ?o6, ?o7, ?o8, ?o9, ?o10, ?o11, ?o12, ?o13, ?o14, ?o15, ?o16, ?o17, ?o18, ?o19, ?o20, ?o21, ?o22, ?o23, ?o24, ?o25, trivial⟩
    case o0 =>
      intro f a u h hfi hp hq
      exact h.yieldW rfl (wanted_none rfl) 5 rfl (by change 5 < 65; decide) rfl _ rfl (run_of_sem rfl (by rw [(show a.eval (.tmp 1) = .pointer (some ⟨w.heap.size, 0, none⟩) from h.agree.eval (by decide))]; exact f_cm1 _ _))
    case o1 =>
      intro f a u h hfi hp hq
      have hyu : Ext (w.alloc (.cells (cmC c qa Q qc).toArray 42)) u := h.ext
      exact h.yieldW rfl (wanted_none rfl) 6 rfl (by change 6 < 65; decide) rfl _ rfl (run_of_sem rfl (by rw [h.at_ 0 rfl (pre_of hp 0 rfl)]; exact ld_ids (cm_cells (Hbox.out.ext hyu) HR.out).2.1))
    case o2 =>
      intro f a u h hfi hp hq
      have q6 := h.att 1 rfl (pre_of hp 1 rfl)
      exact h.yieldW rfl (wanted_none rfl) 7 rfl (by change 7 < 65; decide) rfl _ rfl (by go_simp)
    case o3 =>
      intro f a u h hfi hp hq
      have q7 := h.att 2 rfl (pre_of hp 2 rfl)
      exact h.yieldW rfl (wanted_none rfl) 8 rfl (by change 8 < 65; decide) rfl _ rfl (by go_simp)
    case o4 =>
      intro f a u h hfi hp hq
      have q8 := h.att 3 rfl (pre_of hp 3 rfl)
      exact h.yieldW rfl (wanted_none rfl) 9 rfl (by change 9 < 65; decide) rfl _ rfl (by go_simp)
    case o5 =>
      intro f a u h hfi hp hq
      exact h.yieldW rfl (wanted_yes (g := 4) (d' := 9) rfl rfl (h.at_ 4 rfl (pre_of hp 4 rfl))) 10 rfl (by change 10 < 65; decide) rfl _ rfl (run_of_sem rfl (by rw [(show a.eval (.tmp 1) = .pointer (some ⟨w.heap.size, 0, none⟩) from h.agree.eval (by decide))]; exact f_cm2 _ _))
    case o6 =>
      intro f a u h hfi hp hq
      have hyu : Ext (w.alloc (.cells (cmC c qa Q qc).toArray 42)) u := h.ext
      exact h.yieldW rfl (wanted_yes (g := 4) (d' := 9) rfl rfl (h.at_ 4 rfl (pre_of hp 4 rfl))) 11 rfl (by change 11 < 65; decide) rfl _ rfl (run_of_sem rfl (by rw [h.at_ 5 rfl (pre_of hp 5 rfl)]; exact ld_str (cm_cells (Hbox.out.ext hyu) HR.out).2.2.1))
    case o7 =>
      intro f a u h hfi hp hq
      have q11 := h.att 6 rfl (pre_of hp 6 rfl)
      exact h.yieldW rfl (wanted_yes (g := 4) (d' := 9) rfl rfl (h.at_ 4 rfl (pre_of hp 4 rfl))) 12 rfl (by change 12 < 65; decide) rfl _ rfl (by go_simp)
    case o8 =>
      intro f a u h hfi hp hq
      have q12 := h.att 7 rfl (pre_of hp 7 rfl)
      exact h.yieldW rfl (wanted_yes (g := 4) (d' := 9) rfl rfl (h.at_ 4 rfl (pre_of hp 4 rfl))) 13 rfl (by change 13 < 65; decide) rfl _ rfl (by go_simp)
    case o9 =>
      intro f a u h hfi hp hq
      have q9 := h.att 4 rfl (pre_of hp 4 rfl)
      have q13 := h.att 8 rfl (pre_of hp 8 rfl)
      exact h.yieldW rfl (wanted_none rfl) 14 rfl (by change 14 < 65; decide) rfl _ rfl (by go_simp)
    case o10 =>
      intro f a u h hfi hp hq
      have q14 := h.att 9 rfl (pre_of hp 9 rfl)
      exact h.yieldW rfl (wanted_none rfl) 15 rfl (by change 15 < 65; decide) rfl _ rfl (by go_simp)
    case o11 =>
      intro f a u h hfi hp hq
      exact h.yieldW rfl (wanted_yes (g := 10) (d' := 15) rfl rfl (h.at_ 10 rfl (pre_of hp 10 rfl))) 16 rfl (by change 16 < 65; decide) rfl _ rfl (run_of_sem rfl (by rw [(show a.eval (.tmp 1) = .pointer (some ⟨w.heap.size, 0, none⟩) from h.agree.eval (by decide))]; exact f_cm3 _ _))
    case o12 =>
      intro f a u h hfi hp hq
      have hyu : Ext (w.alloc (.cells (cmC c qa Q qc).toArray 42)) u := h.ext
      exact h.yieldW rfl (wanted_yes (g := 10) (d' := 15) rfl rfl (h.at_ 10 rfl (pre_of hp 10 rfl))) 17 rfl (by change 17 < 65; decide) rfl _ rfl (run_of_sem rfl (by rw [h.at_ 11 rfl (pre_of hp 11 rfl)]; exact ld_int (cm_cells (Hbox.out.ext hyu) HR.out).2.2.2))
    case o13 =>
      intro f a u h hfi hp hq
      have q17 := h.att 12 rfl (pre_of hp 12 rfl)
      exact h.yieldW rfl (wanted_yes (g := 10) (d' := 15) rfl rfl (h.at_ 10 rfl (pre_of hp 10 rfl))) 18 rfl (by change 18 < 65; decide) rfl _ rfl (by go_simp)
    case o14 =>
      intro f a u h hfi hp hq
      have q15 := h.att 10 rfl (pre_of hp 10 rfl)
      have q18 := h.att 13 rfl (pre_of hp 13 rfl)
      exact h.yieldW rfl (wanted_none rfl) 19 rfl (by change 19 < 65; decide) rfl _ rfl (by go_simp)
    case o15 =>
      intro f a u h hfi hp hq
      have q19 := h.att 14 rfl (pre_of hp 14 rfl)
      exact h.yieldW rfl (wanted_none rfl) 20 rfl (by change 20 < 65; decide) rfl _ rfl (by go_simp)
    case o16 =>
      intro f a u h hfi hp hq
      exact h.skip rfl (wanted_not (g := 15) (d' := 20) rfl rfl (h.at_ 15 rfl (pre_of hp 15 rfl)) rfl) 21 rfl (by change 21 < 65; decide) rfl rfl
    case o17 =>
      intro f a u h hfi hp hq
      exact h.skip rfl (wanted_not (g := 15) (d' := 20) rfl rfl (h.at_ 15 rfl (pre_of hp 15 rfl)) rfl) 22 rfl (by change 22 < 65; decide) rfl rfl
    case o18 =>
      intro f a u h hfi hp hq
      exact h.skip rfl (wanted_not (g := 15) (d' := 20) rfl rfl (h.at_ 15 rfl (pre_of hp 15 rfl)) rfl) 23 rfl (by change 23 < 65; decide) rfl rfl
    case o19 =>
      intro f a u h hfi hp hq
      have q20 := h.att 15 rfl (pre_of hp 15 rfl)
      have q23 := h.att 18 rfl (pre_of hp 18 rfl)
      exact h.yieldW rfl (wanted_none rfl) 24 rfl (by change 24 < 65; decide) rfl _ rfl (by go_simp)
    case o20 =>
      intro f a u h hfi hp hq
      have q24 := h.att 19 rfl (pre_of hp 19 rfl)
      exact h.yieldW rfl (wanted_none rfl) 25 rfl (by change 25 < 65; decide) rfl _ rfl (by go_simp)
    case o21 =>
      intro f a u h hfi hp hq
      exact h.skip rfl (wanted_not (g := 20) (d' := 25) rfl rfl (h.at_ 20 rfl (pre_of hp 20 rfl)) rfl) 26 rfl (by change 26 < 65; decide) rfl rfl
    case o22 =>
      intro f a u h hfi hp hq
      exact h.skip rfl (wanted_not (g := 20) (d' := 25) rfl rfl (h.at_ 20 rfl (pre_of hp 20 rfl)) rfl) 27 rfl (by change 27 < 65; decide) rfl rfl
    case o23 =>
      intro f a u h hfi hp hq
      exact h.skip rfl (wanted_not (g := 20) (d' := 25) rfl rfl (h.at_ 20 rfl (pre_of hp 20 rfl)) rfl) 28 rfl (by change 28 < 65; decide) rfl rfl
    case o24 =>
      intro f a u h hfi hp hq
      exact h.skip rfl (wanted_not (g := 20) (d' := 25) rfl rfl (h.at_ 20 rfl (pre_of hp 20 rfl)) rfl) 29 rfl (by change 29 < 65; decide) rfl rfl
    case o25 =>
      intro f a u h hfi hp hq
      have q25 := h.att 20 rfl (pre_of hp 20 rfl)
      have q29 := h.att 24 rfl (pre_of hp 24 rfl)
      exact h.yieldW rfl (wanted_none rfl) 30 rfl (by change 30 < 65; decide) rfl _ rfl (by go_simp)
  · intro f a u h hall hfar
    have hag := h.agree.out
    have e30 := h.at_ 25 rfl (hall 25 (by decide))
    have hye := hx0.trans h.ext
    simp only [List.foldl_cons, List.foldl_nil, Act.put, List.setIfInBounds_toArray, List.set_cons_zero, List.set_cons_succ, e30] at hag
    generalize a.eval (.tmp 5) = y5 at hag
    generalize a.eval (.tmp 6) = y6 at hag
    generalize a.eval (.tmp 7) = y7 at hag
    generalize a.eval (.tmp 8) = y8 at hag
    generalize a.eval (.tmp 9) = y9 at hag
    generalize a.eval (.tmp 10) = y10 at hag
    generalize a.eval (.tmp 11) = y11 at hag
    generalize a.eval (.tmp 12) = y12 at hag
    generalize a.eval (.tmp 13) = y13 at hag
    generalize a.eval (.tmp 14) = y14 at hag
    generalize a.eval (.tmp 15) = y15 at hag
    generalize a.eval (.tmp 16) = y16 at hag
    generalize a.eval (.tmp 17) = y17 at hag
    generalize a.eval (.tmp 18) = y18 at hag
    generalize a.eval (.tmp 19) = y19 at hag
    generalize a.eval (.tmp 20) = y20 at hag
    generalize a.eval (.tmp 21) = y21 at hag
    generalize a.eval (.tmp 22) = y22 at hag
    generalize a.eval (.tmp 23) = y23 at hag
    generalize a.eval (.tmp 24) = y24 at hag
    generalize a.eval (.tmp 25) = y25 at hag
    generalize a.eval (.tmp 26) = y26 at hag
    generalize a.eval (.tmp 27) = y27 at hag
    generalize a.eval (.tmp 28) = y28 at hag
    generalize a.eval (.tmp 29) = y29 at hag
    clear h hall hfar e30
    subst hag
    go_wp2
    go_ret
    exact ⟨rfl, hye⟩

set_option maxRecDepth 100000 in
set_option maxHeartbeats 8000000 in
theorem goodCommit_4 (c : Cm) (qa : Option Addr) (Q qc : Nat) (w : World) (h : CmAt w c qa Q qc) (h1 : ¬ (2 : Int) < (Q : Int)) (h2 : ¬ (32 : Int) < (c.note.size : Int)) (h3 : ¬ c.num < 1) (hf : 1024 < c.num) :
    Calls Tryd.prog 66 #[cma c qa Q qc] w fun e w' => e = .returned (.bool false) ∧ Ext w w' := by
  have Hh := Lib.hid h
  have HR := Lib.hid h.hr
  have hn0 := h.n0
  have hn1 := h.n1
  have hsn := h.sn
  have hbq := h.bq
  clear h
  go_enter Tryd.func66, Tryd.ntmps66
  have hbox : Blk (w.alloc (.cells (cmC c qa Q qc).toArray 42)) w.heap.size 42 (cmC c qa Q qc).toArray := Blk.new w _ _
  have hx0 : Ext w (w.alloc (.cells (cmC c qa Q qc).toArray 42)) := (Ext.refl _).alloc _
  have Hbox := Lib.hid hbox
  have HGR := fun w' => idgood_calls c.root w' HR.out
  unfold idv at HGR
  clear hbox
  go_upto_region 1 with (fail)
  refine wp_region_text (RInv [5, 6, 7, 8, 9, 10, 11, 12, 13, 14, 15, 16, 17, 18, 19, 20, 21, 22, 23, 24, 25, 26, 27, 28, 29, 30] _ (w.alloc (.cells (cmC c qa Q qc).toArray 42)) [(0, 5, .pointer (some ⟨w.heap.size, 33, none⟩)), (1, 6, .slice qa Q qc), (2, 7, .int .i64 (Q : Int)), (3, 8, .bool false), (4, 9, .bool false), (5, 10, .pointer (some ⟨w.heap.size, 34, none⟩)), (6, 11, .string c.note), (7, 12, .int .i64 (c.note.size : Int)), (8, 13, .bool false), (9, 14, .bool false), (10, 15, .bool false), (11, 16, .pointer (some ⟨w.heap.size, 35, none⟩)), (12, 17, .int .i64 c.num), (13, 18, .bool false), (14, 19, .bool false), (15, 20, .bool false), (16, 21, .pointer (some ⟨w.heap.size, 35, none⟩)), (17, 22, .int .i64 c.num), (18, 23, .bool true), (19, 24, .bool true), (20, 25, .bool true), (21, 26, undef), (22, 27, undef), (23, 28, undef), (24, 29, undef), (25, 30, .bool true)] []) (by kernel_rfl) RInv.start ?_ ?_
  · refine ⟨?o0, ?o1, ?o2, ?o3, ?o4, ?o5, ?o6, ?o7, ?o8, ?o9, ?o10, ?o11, ?o12, ?o13, ?o14, ?o15, ?o16, ?o17, ?o18, ?o19, ?o20, ?o21, ?o22, ?o23, ?o24, ?o25, trivial⟩
    case o0 =>
      intro f a u h hfi hp hq
      exact h.yieldW rfl (wanted_none rfl) 5 rfl (by change 5 < 65; decide) rfl _ rfl (run_of_sem rfl (by rw [(show a.eval (.tmp 1) = .pointer (some ⟨w.heap.size, 0, none⟩) from h.agree.eval (by decide))]; exact f_cm1 _ _))
    case o1 =>
      intro f a u h hfi hp hq
      have hyu : Ext (w.alloc (.cells (cmC c qa Q qc).toArray 42)) u := h.ext
      exact h.yieldW rfl (wanted_none rfl) 6 rfl (by change 6 < 65; decide) rfl _ rfl (run_of_sem rfl (by rw [h.at_ 0 rfl (pre_of hp 0 rfl)]; exact ld_ids (cm_cells (Hbox.out.ext hyu) HR.out).2.1))
    case o2 =>
      intro f a u h hfi hp hq
      have q6 := h.att 1 rfl (pre_of hp 1 rfl)
      exact h.yieldW rfl (wanted_none rfl) 7 rfl (by change 7 < 65; decide) rfl _ rfl (by go_simp)
    case o3 =>
      intro f a u h hfi hp hq
      have q7 := h.att 2 rfl (pre_of hp 2 rfl)
      exact h.yieldW rfl (wanted_none rfl) 8 rfl (by change 8 < 65; decide) rfl _ rfl (by go_simp)
    case o4 =>
      intro f a u h hfi hp hq
      have q8 := h.att 3 rfl (pre_of hp 3 rfl)
      exact h.yieldW rfl (wanted_none rfl) 9 rfl (by change 9 < 65; decide) rfl _ rfl (by go_simp)
    case o5 =>
      intro f a u h hfi hp hq
      exact h.yieldW rfl (wanted_yes (g := 4) (d' := 9) rfl rfl (h.at_ 4 rfl (pre_of hp 4 rfl))) 10 rfl (by change 10 < 65; decide) rfl _ rfl (run_of_sem rfl (by rw [(show a.eval (.tmp 1) = .pointer (some ⟨w.heap.size, 0, none⟩) from h.agree.eval (by decide))]; exact f_cm2 _ _))
    case o6 =>
      intro f a u h hfi hp hq
      have hyu : Ext (w.alloc (.cells (cmC c qa Q qc).toArray 42)) u := h.ext
      exact h.yieldW rfl (wanted_yes (g := 4) (d' := 9) rfl rfl (h.at_ 4 rfl (pre_of hp 4 rfl))) 11 rfl (by change 11 < 65; decide) rfl _ rfl (run_of_sem rfl (by rw [h.at_ 5 rfl (pre_of hp 5 rfl)]; exact ld_str (cm_cells (Hbox.out.ext hyu) HR.out).2.2.1))
    case o7 =>
      intro f a u h hfi hp hq
      have q11 := h.att 6 rfl (pre_of hp 6 rfl)
      exact h.yieldW rfl (wanted_yes (g := 4) (d' := 9) rfl rfl (h.at_ 4 rfl (pre_of hp 4 rfl))) 12 rfl (by change 12 < 65; decide) rfl _ rfl (by go_simp)
    case o8 =>
      intro f a u h hfi hp hq
      have q12 := h.att 7 rfl (pre_of hp 7 rfl)
      exact h.yieldW rfl (wanted_yes (g := 4) (d' := 9) rfl rfl (h.at_ 4 rfl (pre_of hp 4 rfl))) 13 rfl (by change 13 < 65; decide) rfl _ rfl (by go_simp)
    case o9 =>
      intro f a u h hfi hp hq
      have q9 := h.att 4 rfl (pre_of hp 4 rfl)
      have q13 := h.att 8 rfl (pre_of hp 8 rfl)
      exact h.yieldW rfl (wanted_none rfl) 14 rfl (by change 14 < 65; decide) rfl _ rfl (by go_simp)
    case o10 =>
      intro f a u h hfi hp hq
      have q14 := h.att 9 rfl (pre_of hp 9 rfl)
      exact h.yieldW rfl (wanted_none rfl) 15 rfl (by change 15 < 65; decide) rfl _ rfl (by go_simp)
    case o11 =>
      intro f a u h hfi hp hq
      exact h.yieldW rfl (wanted_yes (g := 10) (d' := 15) rfl rfl (h.at_ 10 rfl (pre_of hp 10 rfl))) 16 rfl (by change 16 < 65; decide) rfl _ rfl (run_of_sem rfl (by rw [(show a.eval (.tmp 1) = .pointer (some ⟨w.heap.size, 0, none⟩) from h.agree.eval (by decide))]; exact f_cm3 _ _))
    case o12 =>
      intro f a u h hfi hp hq
      have hyu : Ext (w.alloc (.cells (cmC c qa Q qc).toArray 42)) u := h.ext
      exact h.yieldW rfl (wanted_yes (g := 10) (d' := 15) rfl rfl (h.at_ 10 rfl (pre_of hp 10 rfl))) 17 rfl (by change 17 < 65; decide) rfl _ rfl (run_of_sem rfl (by rw [h.at_ 11 rfl (pre_of hp 11 rfl)]; exact ld_int (cm_cells (Hbox.out.ext hyu) HR.out).2.2.2))
    case o13 =>
      intro f a u h hfi hp hq
      have q17 := h.att 12 rfl (pre_of hp 12 rfl)
      exact h.yieldW rfl (wanted_yes (g := 10) (d' := 15) rfl rfl (h.at_ 10 rfl (pre_of hp 10 rfl))) 18 rfl (by change 18 < 65; decide) rfl _ rfl (by go_simp)
    case o14 =>
      intro f a u h hfi hp hq
      have q15 := h.att 10 rfl (pre_of hp 10 rfl)
      have q18 := h.att 13 rfl (pre_of hp 13 rfl)
      exact h.yieldW rfl (wanted_none rfl) 19 rfl (by change 19 < 65; decide) rfl _ rfl (by go_simp)
    case o15 =>
      intro f a u h hfi hp hq
      have q19 := h.att 14 rfl (pre_of hp 14 rfl)
      exact h.yieldW rfl (wanted_none rfl) 20 rfl (by change 20 < 65; decide) rfl _ rfl (by go_simp)
    case o16 =>
      intro f a u h hfi hp hq
      exact h.yieldW rfl (wanted_yes (g := 15) (d' := 20) rfl rfl (h.at_ 15 rfl (pre_of hp 15 rfl))) 21 rfl (by change 21 < 65; decide) rfl _ rfl (run_of_sem rfl (by rw [(show a.eval (.tmp 1) = .pointer (some ⟨w.heap.size, 0, none⟩) from h.agree.eval (by decide))]; exact f_cm3 _ _))
    case o17 =>
      intro f a u h hfi hp hq
      have hyu : Ext (w.alloc (.cells (cmC c qa Q qc).toArray 42)) u := h.ext
      exact h.yieldW rfl (wanted_yes (g := 15) (d' := 20) rfl rfl (h.at_ 15 rfl (pre_of hp 15 rfl))) 22 rfl (by change 22 < 65; decide) rfl _ rfl (run_of_sem rfl (by rw [h.at_ 16 rfl (pre_of hp 16 rfl)]; exact ld_int (cm_cells (Hbox.out.ext hyu) HR.out).2.2.2))
    case o18 =>
      intro f a u h hfi hp hq
      have q22 := h.att 17 rfl (pre_of hp 17 rfl)
      exact h.yieldW rfl (wanted_yes (g := 15) (d' := 20) rfl rfl (h.at_ 15 rfl (pre_of hp 15 rfl))) 23 rfl (by change 23 < 65; decide) rfl _ rfl (by go_simp)
    case o19 =>
      intro f a u h hfi hp hq
      have q20 := h.att 15 rfl (pre_of hp 15 rfl)
      have q23 := h.att 18 rfl (pre_of hp 18 rfl)
      exact h.yieldW rfl (wanted_none rfl) 24 rfl (by change 24 < 65; decide) rfl _ rfl (by go_simp)
    case o20 =>
      intro f a u h hfi hp hq
      have q24 := h.att 19 rfl (pre_of hp 19 rfl)
      exact h.yieldW rfl (wanted_none rfl) 25 rfl (by change 25 < 65; decide) rfl _ rfl (by go_simp)
    case o21 =>
      intro f a u h hfi hp hq
      exact h.skip rfl (wanted_not (g := 20) (d' := 25) rfl rfl (h.at_ 20 rfl (pre_of hp 20 rfl)) rfl) 26 rfl (by change 26 < 65; decide) rfl rfl
    case o22 =>
      intro f a u h hfi hp hq
      exact h.skip rfl (wanted_not (g := 20) (d' := 25) rfl rfl (h.at_ 20 rfl (pre_of hp 20 rfl)) rfl) 27 rfl (by change 27 < 65; decide) rfl rfl
    case o23 =>
      intro f a u h hfi hp hq
      exact h.skip rfl (wanted_not (g := 20) (d' := 25) rfl rfl (h.at_ 20 rfl (pre_of hp 20 rfl)) rfl) 28 rfl (by change 28 < 65; decide) rfl rfl
    case o24 =>
      intro f a u h hfi hp hq
      exact h.skip rfl (wanted_not (g := 20) (d' := 25) rfl rfl (h.at_ 20 rfl (pre_of hp 20 rfl)) rfl) 29 rfl (by change 29 < 65; decide) rfl rfl
    case o25 =>
      intro f a u h hfi hp hq
      have q25 := h.att 20 rfl (pre_of hp 20 rfl)
      have q29 := h.att 24 rfl (pre_of hp 24 rfl)
      exact h.yieldW rfl (wanted_none rfl) 30 rfl (by change 30 < 65; decide) rfl _ rfl (by go_simp)
  · intro f a u h hall hfar
    have hag := h.agree.out
    have e30 := h.at_ 25 rfl (hall 25 (by decide))
    have hye := hx0.trans h.ext
    simp only [List.foldl_cons, List.foldl_nil, Act.put, List.setIfInBounds_toArray, List.set_cons_zero, List.set_cons_succ, e30] at hag
    generalize a.eval (.tmp 5) = y5 at hag
    generalize a.eval (.tmp 6) = y6 at hag
    generalize a.eval (.tmp 7) = y7 at hag
    generalize a.eval (.tmp 8) = y8 at hag
    generalize a.eval (.tmp 9) = y9 at hag
    generalize a.eval (.tmp 10) = y10 at hag
    generalize a.eval (.tmp 11) = y11 at hag
    generalize a.eval (.tmp 12) = y12 at hag
    generalize a.eval (.tmp 13) = y13 at hag
    generalize a.eval (.tmp 14) = y14 at hag
    generalize a.eval (.tmp 15) = y15 at hag
    generalize a.eval (.tmp 16) = y16 at hag
    generalize a.eval (.tmp 17) = y17 at hag
    generalize a.eval (.tmp 18) = y18 at hag
    generalize a.eval (.tmp 19) = y19 at hag
    generalize a.eval (.tmp 20) = y20 at hag
    generalize a.eval (.tmp 21) = y21 at hag
    generalize a.eval (.tmp 22) = y22 at hag
    generalize a.eval (.tmp 23) = y23 at hag
    generalize a.eval (.tmp 24) = y24 at hag
    generalize a.eval (.tmp 25) = y25 at hag
    generalize a.eval (.tmp 26) = y26 at hag
    generalize a.eval (.tmp 27) = y27 at hag
    generalize a.eval (.tmp 28) = y28 at hag
    generalize a.eval (.tmp 29) = y29 at hag
    clear h hall hfar e30
    subst hag
    go_wp2
    go_ret
    exact ⟨rfl, hye⟩

set_option maxRecDepth 100000 in
set_option maxHeartbeats 8000000 in
theorem goodCommit_5 (c : Cm) (qa : Option Addr) (Q qc : Nat) (w : World) (h : CmAt w c qa Q qc) (h1 : ¬ (2 : Int) < (Q : Int)) (h2 : ¬ (32 : Int) < (c.note.size : Int)) (h3 : ¬ c.num < 1) (h4 : ¬ 1024 < c.num) (hg : idGood c.root = false) :
    Calls Tryd.prog 66 #[cma c qa Q qc] w fun e w' => e = .returned (.bool false) ∧ Ext w w' := by
  have Hh := Lib.hid h
  have HR := Lib.hid h.hr
  have hn0 := h.n0
  have hn1 := h.n1
  have hsn := h.sn
  have hbq := h.bq
  clear h
  go_enter Tryd.func66, Tryd.ntmps66
  have hbox : Blk (w.alloc (.cells (cmC c qa Q qc).toArray 42)) w.heap.size 42 (cmC c qa Q qc).toArray := Blk.new w _ _
  have hx0 : Ext w (w.alloc (.cells (cmC c qa Q qc).toArray 42)) := (Ext.refl _).alloc _
  have Hbox := Lib.hid hbox
  have HGR := fun w' => idgood_calls c.root w' HR.out
  unfold idv at HGR
  clear hbox
  go_upto_region 1 with (fail)
  rw [hg] at HGR
  refine wp_region_text (RInv [5, 6, 7, 8, 9, 10, 11, 12, 13, 14, 15, 16, 17, 18, 19, 20, 21, 22, 23, 24, 25, 26, 27, 28, 29, 30] _ (w.alloc (.cells (cmC c qa Q qc).toArray 42)) [(0, 5, .pointer (some ⟨w.heap.size, 33, none⟩)), (1, 6, .slice qa Q qc), (2, 7, .int .i64 (Q : Int)), (3, 8, .bool false), (4, 9, .bool false), (5, 10, .pointer (some ⟨w.heap.size, 34, none⟩)), (6, 11, .string c.note), (7, 12, .int .i64 (c.note.size : Int)), (8, 13, .bool false), (9, 14, .bool false), (10, 15, .bool false), (11, 16, .pointer (some ⟨w.heap.size, 35, none⟩)), (12, 17, .int .i64 c.num), (13, 18, .bool false), (14, 19, .bool false), (15, 20, .bool false), (16, 21, .pointer (some ⟨w.heap.size, 35, none⟩)), (17, 22, .int .i64 c.num), (18, 23, .bool false), (19, 24, .bool false), (20, 25, .bool false), (21, 26, .pointer (some ⟨w.heap.size, 0, none⟩)), (22, 27, .agg (bv c.root).toArray), (23, 28, .bool false), (24, 29, .bool true), (25, 30, .bool true)] []) (by kernel_rfl) RInv.start ?_ ?_
  · refine ⟨?o0, ?o1, ?o2, ?o3, ?o4, ?o5, ?o6, ?o7, ?o8, ?o9, ?o10, ?o11, ?o12, ?o13, ?o14, ?o15, ?o16, ?o17, ?o18, ?o19, ?o20, ?o21, ?o22, ?o23, ?o24, ?o25, trivial⟩
    case o0 =>
      intro f a u h hfi hp hq
      exact h.yieldW rfl (wanted_none rfl) 5 rfl (by change 5 < 65; decide) rfl _ rfl (run_of_sem rfl (by rw [(show a.eval (.tmp 1) = .pointer (some ⟨w.heap.size, 0, none⟩) from h.agree.eval (by decide))]; exact f_cm1 _ _))
    case o1 =>
      intro f a u h hfi hp hq
      have hyu : Ext (w.alloc (.cells (cmC c qa Q qc).toArray 42)) u := h.ext
      exact h.yieldW rfl (wanted_none rfl) 6 rfl (by change 6 < 65; decide) rfl _ rfl (run_of_sem rfl (by rw [h.at_ 0 rfl (pre_of hp 0 rfl)]; exact ld_ids (cm_cells (Hbox.out.ext hyu) HR.out).2.1))
    case o2 =>
      intro f a u h hfi hp hq
      have q6 := h.att 1 rfl (pre_of hp 1 rfl)
      exact h.yieldW rfl (wanted_none rfl) 7 rfl (by change 7 < 65; decide) rfl _ rfl (by go_simp)
    case o3 =>
      intro f a u h hfi hp hq
      have q7 := h.att 2 rfl (pre_of hp 2 rfl)
      exact h.yieldW rfl (wanted_none rfl) 8 rfl (by change 8 < 65; decide) rfl _ rfl (by go_simp)
    case o4 =>
      intro f a u h hfi hp hq
      have q8 := h.att 3 rfl (pre_of hp 3 rfl)
      exact h.yieldW rfl (wanted_none rfl) 9 rfl (by change 9 < 65; decide) rfl _ rfl (by go_simp)
    case o5 =>
      intro f a u h hfi hp hq
      exact h.yieldW rfl (wanted_yes (g := 4) (d' := 9) rfl rfl (h.at_ 4 rfl (pre_of hp 4 rfl))) 10 rfl (by change 10 < 65; decide) rfl _ rfl (run_of_sem rfl (by rw [(show a.eval (.tmp 1) = .pointer (some ⟨w.heap.size, 0, none⟩) from h.agree.eval (by decide))]; exact f_cm2 _ _))
    case o6 =>
      intro f a u h hfi hp hq
      have hyu : Ext (w.alloc (.cells (cmC c qa Q qc).toArray 42)) u := h.ext
      exact h.yieldW rfl (wanted_yes (g := 4) (d' := 9) rfl rfl (h.at_ 4 rfl (pre_of hp 4 rfl))) 11 rfl (by change 11 < 65; decide) rfl _ rfl (run_of_sem rfl (by rw [h.at_ 5 rfl (pre_of hp 5 rfl)]; exact ld_str (cm_cells (Hbox.out.ext hyu) HR.out).2.2.1))
    case o7 =>
      intro f a u h hfi hp hq
      have q11 := h.att 6 rfl (pre_of hp 6 rfl)
      exact h.yieldW rfl (wanted_yes (g := 4) (d' := 9) rfl rfl (h.at_ 4 rfl (pre_of hp 4 rfl))) 12 rfl (by change 12 < 65; decide) rfl _ rfl (by go_simp)
    case o8 =>
      intro f a u h hfi hp hq
      have q12 := h.att 7 rfl (pre_of hp 7 rfl)
      exact h.yieldW rfl (wanted_yes (g := 4) (d' := 9) rfl rfl (h.at_ 4 rfl (pre_of hp 4 rfl))) 13 rfl (by change 13 < 65; decide) rfl _ rfl (by go_simp)
    case o9 =>
      intro f a u h hfi hp hq
      have q9 := h.att 4 rfl (pre_of hp 4 rfl)
      have q13 := h.att 8 rfl (pre_of hp 8 rfl)
      exact h.yieldW rfl (wanted_none rfl) 14 rfl (by change 14 < 65; decide) rfl _ rfl (by go_simp)
    case o10 =>
      intro f a u h hfi hp hq
      have q14 := h.att 9 rfl (pre_of hp 9 rfl)
      exact h.yieldW rfl (wanted_none rfl) 15 rfl (by change 15 < 65; decide) rfl _ rfl (by go_simp)
    case o11 =>
      intro f a u h hfi hp hq
      exact h.yieldW rfl (wanted_yes (g := 10) (d' := 15) rfl rfl (h.at_ 10 rfl (pre_of hp 10 rfl))) 16 rfl (by change 16 < 65; decide) rfl _ rfl (run_of_sem rfl (by rw [(show a.eval (.tmp 1) = .pointer (some ⟨w.heap.size, 0, none⟩) from h.agree.eval (by decide))]; exact f_cm3 _ _))
    case o12 =>
      intro f a u h hfi hp hq
      have hyu : Ext (w.alloc (.cells (cmC c qa Q qc).toArray 42)) u := h.ext
      exact h.yieldW rfl (wanted_yes (g := 10) (d' := 15) rfl rfl (h.at_ 10 rfl (pre_of hp 10 rfl))) 17 rfl (by change 17 < 65; decide) rfl _ rfl (run_of_sem rfl (by rw [h.at_ 11 rfl (pre_of hp 11 rfl)]; exact ld_int (cm_cells (Hbox.out.ext hyu) HR.out).2.2.2))
    case o13 =>
      intro f a u h hfi hp hq
      have q17 := h.att 12 rfl (pre_of hp 12 rfl)
      exact h.yieldW rfl (wanted_yes (g := 10) (d' := 15) rfl rfl (h.at_ 10 rfl (pre_of hp 10 rfl))) 18 rfl (by change 18 < 65; decide) rfl _ rfl (by go_simp)
    case o14 =>
      intro f a u h hfi hp hq
      have q15 := h.att 10 rfl (pre_of hp 10 rfl)
      have q18 := h.att 13 rfl (pre_of hp 13 rfl)
      exact h.yieldW rfl (wanted_none rfl) 19 rfl (by change 19 < 65; decide) rfl _ rfl (by go_simp)
    case o15 =>
      intro f a u h hfi hp hq
      have q19 := h.att 14 rfl (pre_of hp 14 rfl)
      exact h.yieldW rfl (wanted_none rfl) 20 rfl (by change 20 < 65; decide) rfl _ rfl (by go_simp)
    case o16 =>
      intro f a u h hfi hp hq
      exact h.yieldW rfl (wanted_yes (g := 15) (d' := 20) rfl rfl (h.at_ 15 rfl (pre_of hp 15 rfl))) 21 rfl (by change 21 < 65; decide) rfl _ rfl (run_of_sem rfl (by rw [(show a.eval (.tmp 1) = .pointer (some ⟨w.heap.size, 0, none⟩) from h.agree.eval (by decide))]; exact f_cm3 _ _))
    case o17 =>
      intro f a u h hfi hp hq
      have hyu : Ext (w.alloc (.cells (cmC c qa Q qc).toArray 42)) u := h.ext
      exact h.yieldW rfl (wanted_yes (g := 15) (d' := 20) rfl rfl (h.at_ 15 rfl (pre_of hp 15 rfl))) 22 rfl (by change 22 < 65; decide) rfl _ rfl (run_of_sem rfl (by rw [h.at_ 16 rfl (pre_of hp 16 rfl)]; exact ld_int (cm_cells (Hbox.out.ext hyu) HR.out).2.2.2))
    case o18 =>
      intro f a u h hfi hp hq
      have q22 := h.att 17 rfl (pre_of hp 17 rfl)
      exact h.yieldW rfl (wanted_yes (g := 15) (d' := 20) rfl rfl (h.at_ 15 rfl (pre_of hp 15 rfl))) 23 rfl (by change 23 < 65; decide) rfl _ rfl (by go_simp)
    case o19 =>
      intro f a u h hfi hp hq
      have q20 := h.att 15 rfl (pre_of hp 15 rfl)
      have q23 := h.att 18 rfl (pre_of hp 18 rfl)
      exact h.yieldW rfl (wanted_none rfl) 24 rfl (by change 24 < 65; decide) rfl _ rfl (by go_simp)
    case o20 =>
      intro f a u h hfi hp hq
      have q24 := h.att 19 rfl (pre_of hp 19 rfl)
      exact h.yieldW rfl (wanted_none rfl) 25 rfl (by change 25 < 65; decide) rfl _ rfl (by go_simp)
    case o21 =>
      intro f a u h hfi hp hq
      exact h.yieldW rfl (wanted_yes (g := 20) (d' := 25) rfl rfl (h.at_ 20 rfl (pre_of hp 20 rfl))) 26 rfl (by change 26 < 65; decide) rfl _ rfl (run_of_sem rfl (by rw [(show a.eval (.tmp 1) = .pointer (some ⟨w.heap.size, 0, none⟩) from h.agree.eval (by decide))]; exact f_cm0 _ _))
    case o22 =>
      intro f a u h hfi hp hq
      have hyu : Ext (w.alloc (.cells (cmC c qa Q qc).toArray 42)) u := h.ext
      exact h.yieldW rfl (wanted_yes (g := 20) (d' := 25) rfl rfl (h.at_ 20 rfl (pre_of hp 20 rfl))) 27 rfl (by change 27 < 65; decide) rfl _ rfl (run_of_sem rfl (by rw [h.at_ 21 rfl (pre_of hp 21 rfl)]; exact ld_id HR.out (cm_cells (Hbox.out.ext hyu) HR.out).1))
    case o23 =>
      intro f a u h hfi hp hq
      exact h.callW rfl (wanted_yes (g := 20) (d' := 25) rfl rfl (h.at_ 20 rfl (pre_of hp 20 rfl))) 28 rfl (by change 28 < 65; decide) rfl _ rfl 93 #[.tmp 27] #[27] _ rfl (by kernel_rfl) (by rw [arr1, h.at_ 22 rfl (pre_of hp 22 rfl)]) (HGR u)
    case o24 =>
      intro f a u h hfi hp hq
      have q28 := h.att 23 rfl (pre_of hp 23 rfl)
      exact h.yieldW rfl (wanted_yes (g := 20) (d' := 25) rfl rfl (h.at_ 20 rfl (pre_of hp 20 rfl))) 29 rfl (by change 29 < 65; decide) rfl _ rfl (by go_simp)
    case o25 =>
      intro f a u h hfi hp hq
      have q25 := h.att 20 rfl (pre_of hp 20 rfl)
      have q29 := h.att 24 rfl (pre_of hp 24 rfl)
      exact h.yieldW rfl (wanted_none rfl) 30 rfl (by change 30 < 65; decide) rfl _ rfl (by go_simp)
  · intro f a u h hall hfar
    have hag := h.agree.out
    have e30 := h.at_ 25 rfl (hall 25 (by decide))
    have hye := hx0.trans h.ext
    simp only [List.foldl_cons, List.foldl_nil, Act.put, List.setIfInBounds_toArray, List.set_cons_zero, List.set_cons_succ, e30] at hag
    generalize a.eval (.tmp 5) = y5 at hag
    generalize a.eval (.tmp 6) = y6 at hag
    generalize a.eval (.tmp 7) = y7 at hag
    generalize a.eval (.tmp 8) = y8 at hag
    generalize a.eval (.tmp 9) = y9 at hag
    generalize a.eval (.tmp 10) = y10 at hag
    generalize a.eval (.tmp 11) = y11 at hag
    generalize a.eval (.tmp 12) = y12 at hag
    generalize a.eval (.tmp 13) = y13 at hag
    generalize a.eval (.tmp 14) = y14 at hag
    generalize a.eval (.tmp 15) = y15 at hag
    generalize a.eval (.tmp 16) = y16 at hag
    generalize a.eval (.tmp 17) = y17 at hag
    generalize a.eval (.tmp 18) = y18 at hag
    generalize a.eval (.tmp 19) = y19 at hag
    generalize a.eval (.tmp 20) = y20 at hag
    generalize a.eval (.tmp 21) = y21 at hag
    generalize a.eval (.tmp 22) = y22 at hag
    generalize a.eval (.tmp 23) = y23 at hag
    generalize a.eval (.tmp 24) = y24 at hag
    generalize a.eval (.tmp 25) = y25 at hag
    generalize a.eval (.tmp 26) = y26 at hag
    generalize a.eval (.tmp 27) = y27 at hag
    generalize a.eval (.tmp 28) = y28 at hag
    generalize a.eval (.tmp 29) = y29 at hag
    clear h hall hfar e30
    subst hag
    go_wp2
    go_ret
    exact ⟨rfl, hye⟩

set_option maxRecDepth 100000 in
set_option maxHeartbeats 8000000 in
theorem goodCommit_ok (c : Cm) (qa : Option Addr) (Q qc : Nat) (w : World) (h : CmAt w c qa Q qc) (h1 : ¬ (2 : Int) < (Q : Int)) (h2 : ¬ (32 : Int) < (c.note.size : Int)) (h3 : ¬ c.num < 1) (h4 : ¬ 1024 < c.num) (hg : idGood c.root = true) :
    Calls Tryd.prog 66 #[cma c qa Q qc] w fun e w' => e = .returned (.bool ((List.range c.parents.length).all (paOk c))) ∧ Ext w w' := by
  have Hh := Lib.hid h
  have HR := Lib.hid h.hr
  have hn0 := h.n0
  have hn1 := h.n1
  have hsn := h.sn
  have hbq := h.bq
  clear h
  go_enter Tryd.func66, Tryd.ntmps66
  have hbox : Blk (w.alloc (.cells (cmC c qa Q qc).toArray 42)) w.heap.size 42 (cmC c qa Q qc).toArray := Blk.new w _ _
  have hx0 : Ext w (w.alloc (.cells (cmC c qa Q qc).toArray 42)) := (Ext.refl _).alloc _
  have Hbox := Lib.hid hbox
  have HGR := fun w' => idgood_calls c.root w' HR.out
  unfold idv at HGR
  clear hbox
  go_upto_region 1 with (fail)
  rw [hg] at HGR
  refine wp_region_text (RInv [5, 6, 7, 8, 9, 10, 11, 12, 13, 14, 15, 16, 17, 18, 19, 20, 21, 22, 23, 24, 25, 26, 27, 28, 29, 30] _ (w.alloc (.cells (cmC c qa Q qc).toArray 42)) [(0, 5, .pointer (some ⟨w.heap.size, 33, none⟩)), (1, 6, .slice qa Q qc), (2, 7, .int .i64 (Q : Int)), (3, 8, .bool false), (4, 9, .bool false), (5, 10, .pointer (some ⟨w.heap.size, 34, none⟩)), (6, 11, .string c.note), (7, 12, .int .i64 (c.note.size : Int)), (8, 13, .bool false), (9, 14, .bool false), (10, 15, .bool false), (11, 16, .pointer (some ⟨w.heap.size, 35, none⟩)), (12, 17, .int .i64 c.num), (13, 18, .bool false), (14, 19, .bool false), (15, 20, .bool false), (16, 21, .pointer (some ⟨w.heap.size, 35, none⟩)), (17, 22, .int .i64 c.num), (18, 23, .bool false), (19, 24, .bool false), (20, 25, .bool false), (21, 26, .pointer (some ⟨w.heap.size, 0, none⟩)), (22, 27, .agg (bv c.root).toArray), (23, 28, .bool true), (24, 29, .bool false), (25, 30, .bool false)] []) (by kernel_rfl) RInv.start ?_ ?_
  · refine ⟨?o0, ?o1, ?o2, ?o3, ?o4, ?o5, ?o6, ?o7, ?o8, ?o9, ?o10, ?o11, ?o12, ?o13, ?o14, ?o15, ?o16, ?o17, ?o18, ?o19, ?o20, ?o21, ?o22, ?o23, ?o24, ?o25, trivial⟩
    case o0 =>
      intro f a u h hfi hp hq
      exact h.yieldW rfl (wanted_none rfl) 5 rfl (by change 5 < 65; decide) rfl _ rfl (run_of_sem rfl (by rw [(show a.eval (.tmp 1) = .pointer (some ⟨w.heap.size, 0, none⟩) from h.agree.eval (by decide))]; exact f_cm1 _ _))
    case o1 =>
      intro f a u h hfi hp hq
      have hyu : Ext (w.alloc (.cells (cmC c qa Q qc).toArray 42)) u := h.ext
      exact h.yieldW rfl (wanted_none rfl) 6 rfl (by change 6 < 65; decide) rfl _ rfl (run_of_sem rfl (by rw [h.at_ 0 rfl (pre_of hp 0 rfl)]; exact ld_ids (cm_cells (Hbox.out.ext hyu) HR.out).2.1))
    case o2 =>
      intro f a u h hfi hp hq
      have q6 := h.att 1 rfl (pre_of hp 1 rfl)
      exact h.yieldW rfl (wanted_none rfl) 7 rfl (by change 7 < 65; decide) rfl _ rfl (by go_simp)
    case o3 =>
      intro f a u h hfi hp hq
      have q7 := h.att 2 rfl (pre_of hp 2 rfl)
      exact h.yieldW rfl (wanted_none rfl) 8 rfl (by change 8 < 65; decide) rfl _ rfl (by go_simp)
    case o4 =>
      intro f a u h hfi hp hq
      have q8 := h.att 3 rfl (pre_of hp 3 rfl)
      exact h.yieldW rfl (wanted_none rfl) 9 rfl (by change 9 < 65; decide) rfl _ rfl (by go_simp)
    case o5 =>
      intro f a u h hfi hp hq
      exact h.yieldW rfl (wanted_yes (g := 4) (d' := 9) rfl rfl (h.at_ 4 rfl (pre_of hp 4 rfl))) 10 rfl (by change 10 < 65; decide) rfl _ rfl (run_of_sem rfl (by rw [(show a.eval (.tmp 1) = .pointer (some ⟨w.heap.size, 0, none⟩) from h.agree.eval (by decide))]; exact f_cm2 _ _))
    case o6 =>
      intro f a u h hfi hp hq
      have hyu : Ext (w.alloc (.cells (cmC c qa Q qc).toArray 42)) u := h.ext
      exact h.yieldW rfl (wanted_yes (g := 4) (d' := 9) rfl rfl (h.at_ 4 rfl (pre_of hp 4 rfl))) 11 rfl (by change 11 < 65; decide) rfl _ rfl (run_of_sem rfl (by rw [h.at_ 5 rfl (pre_of hp 5 rfl)]; exact ld_str (cm_cells (Hbox.out.ext hyu) HR.out).2.2.1))
    case o7 =>
      intro f a u h hfi hp hq
      have q11 := h.att 6 rfl (pre_of hp 6 rfl)
      exact h.yieldW rfl (wanted_yes (g := 4) (d' := 9) rfl rfl (h.at_ 4 rfl (pre_of hp 4 rfl))) 12 rfl (by change 12 < 65; decide) rfl _ rfl (by go_simp)
    case o8 =>
      intro f a u h hfi hp hq
      have q12 := h.att 7 rfl (pre_of hp 7 rfl)
      exact h.yieldW rfl (wanted_yes (g := 4) (d' := 9) rfl rfl (h.at_ 4 rfl (pre_of hp 4 rfl))) 13 rfl (by change 13 < 65; decide) rfl _ rfl (by go_simp)
    case o9 =>
      intro f a u h hfi hp hq
      have q9 := h.att 4 rfl (pre_of hp 4 rfl)
      have q13 := h.att 8 rfl (pre_of hp 8 rfl)
      exact h.yieldW rfl (wanted_none rfl) 14 rfl (by change 14 < 65; decide) rfl _ rfl (by go_simp)
    case o10 =>
      intro f a u h hfi hp hq
      have q14 := h.att 9 rfl (pre_of hp 9 rfl)
      exact h.yieldW rfl (wanted_none rfl) 15 rfl (by change 15 < 65; decide) rfl _ rfl (by go_simp)
    case o11 =>
      intro f a u h hfi hp hq
      exact h.yieldW rfl (wanted_yes (g := 10) (d' := 15) rfl rfl (h.at_ 10 rfl (pre_of hp 10 rfl))) 16 rfl (by change 16 < 65; decide) rfl _ rfl (run_of_sem rfl (by rw [(show a.eval (.tmp 1) = .pointer (some ⟨w.heap.size, 0, none⟩) from h.agree.eval (by decide))]; exact f_cm3 _ _))
    case o12 =>
      intro f a u h hfi hp hq
      have hyu : Ext (w.alloc (.cells (cmC c qa Q qc).toArray 42)) u := h.ext
      exact h.yieldW rfl (wanted_yes (g := 10) (d' := 15) rfl rfl (h.at_ 10 rfl (pre_of hp 10 rfl))) 17 rfl (by change 17 < 65; decide) rfl _ rfl (run_of_sem rfl (by rw [h.at_ 11 rfl (pre_of hp 11 rfl)]; exact ld_int (cm_cells (Hbox.out.ext hyu) HR.out).2.2.2))
    case o13 =>
      intro f a u h hfi hp hq
      have q17 := h.att 12 rfl (pre_of hp 12 rfl)
      exact h.yieldW rfl (wanted_yes (g := 10) (d' := 15) rfl rfl (h.at_ 10 rfl (pre_of hp 10 rfl))) 18 rfl (by change 18 < 65; decide) rfl _ rfl (by go_simp)
    case o14 =>
      intro f a u h hfi hp hq
      have q15 := h.att 10 rfl (pre_of hp 10 rfl)
      have q18 := h.att 13 rfl (pre_of hp 13 rfl)
      exact h.yieldW rfl (wanted_none rfl) 19 rfl (by change 19 < 65; decide) rfl _ rfl (by go_simp)
    case o15 =>
      intro f a u h hfi hp hq
      have q19 := h.att 14 rfl (pre_of hp 14 rfl)
      exact h.yieldW rfl (wanted_none rfl) 20 rfl (by change 20 < 65; decide) rfl _ rfl (by go_simp)
    case o16 =>
      intro f a u h hfi hp hq
      exact h.yieldW rfl (wanted_yes (g := 15) (d' := 20) rfl rfl (h.at_ 15 rfl (pre_of hp 15 rfl))) 21 rfl (by change 21 < 65; decide) rfl _ rfl (run_of_sem rfl (by rw [(show a.eval (.tmp 1) = .pointer (some ⟨w.heap.size, 0, none⟩) from h.agree.eval (by decide))]; exact f_cm3 _ _))
    case o17 =>
      intro f a u h hfi hp hq
      have hyu : Ext (w.alloc (.cells (cmC c qa Q qc).toArray 42)) u := h.ext
      exact h.yieldW rfl (wanted_yes (g := 15) (d' := 20) rfl rfl (h.at_ 15 rfl (pre_of hp 15 rfl))) 22 rfl (by change 22 < 65; decide) rfl _ rfl (run_of_sem rfl (by rw [h.at_ 16 rfl (pre_of hp 16 rfl)]; exact ld_int (cm_cells (Hbox.out.ext hyu) HR.out).2.2.2))
    case o18 =>
      intro f a u h hfi hp hq
      have q22 := h.att 17 rfl (pre_of hp 17 rfl)
      exact h.yieldW rfl (wanted_yes (g := 15) (d' := 20) rfl rfl (h.at_ 15 rfl (pre_of hp 15 rfl))) 23 rfl (by change 23 < 65; decide) rfl _ rfl (by go_simp)
    case o19 =>
      intro f a u h hfi hp hq
      have q20 := h.att 15 rfl (pre_of hp 15 rfl)
      have q23 := h.att 18 rfl (pre_of hp 18 rfl)
      exact h.yieldW rfl (wanted_none rfl) 24 rfl (by change 24 < 65; decide) rfl _ rfl (by go_simp)
    case o20 =>
      intro f a u h hfi hp hq
      have q24 := h.att 19 rfl (pre_of hp 19 rfl)
      exact h.yieldW rfl (wanted_none rfl) 25 rfl (by change 25 < 65; decide) rfl _ rfl (by go_simp)
    case o21 =>
      intro f a u h hfi hp hq
      exact h.yieldW rfl (wanted_yes (g := 20) (d' := 25) rfl rfl (h.at_ 20 rfl (pre_of hp 20 rfl))) 26 rfl (by change 26 < 65; decide) rfl _ rfl (run_of_sem rfl (by rw [(show a.eval (.tmp 1) = .pointer (some ⟨w.heap.size, 0, none⟩) from h.agree.eval (by decide))]; exact f_cm0 _ _))
    case o22 =>
      intro f a u h hfi hp hq
      have hyu : Ext (w.alloc (.cells (cmC c qa Q qc).toArray 42)) u := h.ext
      exact h.yieldW rfl (wanted_yes (g := 20) (d' := 25) rfl rfl (h.at_ 20 rfl (pre_of hp 20 rfl))) 27 rfl (by change 27 < 65; decide) rfl _ rfl (run_of_sem rfl (by rw [h.at_ 21 rfl (pre_of hp 21 rfl)]; exact ld_id HR.out (cm_cells (Hbox.out.ext hyu) HR.out).1))
    case o23 =>
      intro f a u h hfi hp hq
      exact h.callW rfl (wanted_yes (g := 20) (d' := 25) rfl rfl (h.at_ 20 rfl (pre_of hp 20 rfl))) 28 rfl (by change 28 < 65; decide) rfl _ rfl 93 #[.tmp 27] #[27] _ rfl (by kernel_rfl) (by rw [arr1, h.at_ 22 rfl (pre_of hp 22 rfl)]) (HGR u)
    case o24 =>
      intro f a u h hfi hp hq
      have q28 := h.att 23 rfl (pre_of hp 23 rfl)
      exact h.yieldW rfl (wanted_yes (g := 20) (d' := 25) rfl rfl (h.at_ 20 rfl (pre_of hp 20 rfl))) 29 rfl (by change 29 < 65; decide) rfl _ rfl (by go_simp)
    case o25 =>
      intro f a u h hfi hp hq
      have q25 := h.att 20 rfl (pre_of hp 20 rfl)
      have q29 := h.att 24 rfl (pre_of hp 24 rfl)
      exact h.yieldW rfl (wanted_none rfl) 30 rfl (by change 30 < 65; decide) rfl _ rfl (by go_simp)
  · intro f a u h hall hfar
    have hag := h.agree.out
    have e30 := h.at_ 25 rfl (hall 25 (by decide))
    have hye := hx0.trans h.ext
    simp only [List.foldl_cons, List.foldl_nil, Act.put, List.setIfInBounds_toArray, List.set_cons_zero, List.set_cons_succ, e30] at hag
    generalize a.eval (.tmp 5) = y5 at hag
    generalize a.eval (.tmp 6) = y6 at hag
    generalize a.eval (.tmp 7) = y7 at hag
    generalize a.eval (.tmp 8) = y8 at hag
    generalize a.eval (.tmp 9) = y9 at hag
    generalize a.eval (.tmp 10) = y10 at hag
    generalize a.eval (.tmp 11) = y11 at hag
    generalize a.eval (.tmp 12) = y12 at hag
    generalize a.eval (.tmp 13) = y13 at hag
    generalize a.eval (.tmp 14) = y14 at hag
    generalize a.eval (.tmp 15) = y15 at hag
    generalize a.eval (.tmp 16) = y16 at hag
    generalize a.eval (.tmp 17) = y17 at hag
    generalize a.eval (.tmp 18) = y18 at hag
    generalize a.eval (.tmp 19) = y19 at hag
    generalize a.eval (.tmp 20) = y20 at hag
    generalize a.eval (.tmp 21) = y21 at hag
    generalize a.eval (.tmp 22) = y22 at hag
    generalize a.eval (.tmp 23) = y23 at hag
    generalize a.eval (.tmp 24) = y24 at hag
    generalize a.eval (.tmp 25) = y25 at hag
    generalize a.eval (.tmp 26) = y26 at hag
    generalize a.eval (.tmp 27) = y27 at hag
    generalize a.eval (.tmp 28) = y28 at hag
    generalize a.eval (.tmp 29) = y29 at hag
    have Hby := Lib.hid (Hbox.out.ext h.ext)
    clear h hall hfar e30
    subst hag
    clear hg h1 h2 h3 h4 HGR
    obtain ⟨_, b1, _, _⟩ := cm_cells Hby.out HR.out
    go_wp2
    clear b1
    go_loopw [34] (fun i wr => ∃ k : Nat, k ≤ Q ∧ i = .int .i64 k ∧ Aside ((List.range k).all (paOk c) = true) ∧ Ext u wr) (fun i _ => Q - (intOf i).toNat)
    case atStart => exact ⟨0, Nat.zero_le _, rfl, rfl, Ext.refl _⟩
    case round =>
      obtain ⟨k, hk, rfl, hA, hx⟩ := hrel
      by_cases hlt : k < Q
      · have hkl : k < c.parents.length := by rw [Hh.out.hq]; exact hlt
        obtain ⟨x, rfl, _, r2⟩ := id_row ((Hh.out.cq.ext hye).ext hx) hkl
        have hpl : (c.parents[k]).length = 33 := Hh.out.sq _ (List.getElem_mem hkl)
        obtain ⟨p, hp⟩ : ∃ p, p = c.parents[k] := ⟨_, rfl⟩
        rw [← hp] at r2 hpl
        have HP := Lib.hid hp
        have HPL := Lib.hid hpl
        clear hp hpl
        have hlc := r2
        go_wp2_with (first
          | (refine wpList_load_row_ rfl 27 (.tmp 37) rfl (x.add (k * 33)) rfl (bv p) _ hlc Tryd.underlying27 rfl (by rw [id_info, bv_len, HPL.out]) ?_)
          | (refine wpList_store_blk rfl 27 (.tmp 4) (.tmp 38) rfl rfl wr.heap.size (bv p).toArray rfl rfl _ _ (Blk.new wr _ _) (by rw [List.size_toArray, bv_len, HPL.out]; rfl) (by kernel_rfl) (bv_cells _) ?_; intro w3 hb4 hg3; have hx3 : Ext wr w3 := ((Ext.refl _).alloc _).grown_ hg3 (by simp)))
        clear hlc r2
        have hxx := hx.trans hx3
        have hxw := hye.trans hxx
        have HB1 := Lib.hid (Hby.out.ext hxx)
        have hok : paOk c k = (idGood p && (idKind p == idKind c.root && (k == 0 || !(c.parents.getD (k - 1) [] == p)))) := by
          unfold paOk
          rw [paAt_get hkl, ← HP.out]
        have hno : paOk c k = false → ((List.range c.parents.length).all (paOk c)) = false := fun hf => range_bad hkl hf
        have HOK := Lib.hid hok
        have HNO := Lib.hid hno
        have HGP := fun w' => idgood_calls p w' HPL.out
        unfold idv at HGP
        obtain ⟨g4, hg4⟩ : ∃ g, g = wr.heap.size := ⟨_, rfl⟩
        rw [← hg4] at hb4 ⊢
        have HB4 := Lib.hid hb4
        clear hok hno hg3 hx3 hg4 hb4
        cases hgood : idGood p with
        | false =>
          have HF := Lib.hid (HNO.out (by rw [HOK.out, hgood, Bool.false_and]))
          rw [hgood] at HGP
          refine wp_region_ops (RInv [39, 40, 41, 42, 43, 44, 45, 46, 47, 48, 49, 50, 51, 52, 53, 54, 55, 56, 57, 58, 59, 60, 61, 62, 63] _ w3.drew [(0, 39, .agg (bv p).toArray), (1, 40, .bool false), (2, 41, .bool true), (3, 42, .bool true), (4, 43, undef), (5, 44, undef), (6, 45, undef), (7, 46, undef), (8, 47, undef), (9, 48, undef), (10, 49, .bool true), (11, 50, .bool true), (12, 51, undef), (13, 52, undef), (14, 53, undef), (15, 54, undef), (16, 55, undef), (17, 56, undef), (18, 57, undef), (19, 58, undef), (20, 59, undef), (21, 60, undef), (22, 61, undef), (23, 62, undef), (24, 63, .bool true)] []) (by kernel_rfl) (by kernel_rfl) RInv.start ?_ ?_
          · refine ⟨?o0, ?o1, ?o2, ?o3, ?o4, ?o5, ?o6, ?o7, ?o8, ?o9, ?o10, ?o11, ?o12, ?o13, ?o14, ?o15, ?o16, ?o17, ?o18, ?o19, ?o20, ?o21, ?o22, ?o23, ?o24, trivial⟩
            case o0 =>
              intro f a u h hfi hp hq
              have hyu : Ext w3 u := ((Ext.refl w3).drew).trans h.ext
              exact h.yieldW rfl (wanted_none rfl) 39 rfl (by change 39 < 65; decide) rfl _ rfl (run_of_sem rfl (by rw [(show a.eval (.tmp 4) = .pointer (some ⟨g4, 0, none⟩) from h.agree.eval (by decide))]; exact run_load_blk (HB4.out.ext hyu) Tryd.underlying27 rfl (by rw [List.size_toArray, bv_len, HPL.out]; exact id_info)))
            case o1 =>
              intro f a u h hfi hp hq
              exact h.callW rfl (wanted_none rfl) 40 rfl (by change 40 < 65; decide) rfl _ rfl 93 #[.tmp 39] #[27] _ rfl (by kernel_rfl) (by rw [arr1, h.at_ 0 rfl (pre_of hp 0 rfl)]) (HGP u)
            case o2 =>
              intro f a u h hfi hp hq
              have q40 := h.att 1 rfl (pre_of hp 1 rfl)
              exact h.yieldW rfl (wanted_none rfl) 41 rfl (by change 41 < 65; decide) rfl _ rfl (by go_simp)
            case o3 =>
              intro f a u h hfi hp hq
              have q41 := h.att 2 rfl (pre_of hp 2 rfl)
              exact h.yieldW rfl (wanted_none rfl) 42 rfl (by change 42 < 65; decide) rfl _ rfl (by go_simp)
            case o4 =>
              intro f a u h hfi hp hq
              exact h.skip rfl (wanted_not (g := 3) (d' := 42) rfl rfl (h.at_ 3 rfl (pre_of hp 3 rfl)) rfl) 43 rfl (by change 43 < 65; decide) rfl rfl
            case o5 =>
              intro f a u h hfi hp hq
              exact h.skip rfl (wanted_not (g := 3) (d' := 42) rfl rfl (h.at_ 3 rfl (pre_of hp 3 rfl)) rfl) 44 rfl (by change 44 < 65; decide) rfl rfl
            case o6 =>
              intro f a u h hfi hp hq
              exact h.skip rfl (wanted_not (g := 3) (d' := 42) rfl rfl (h.at_ 3 rfl (pre_of hp 3 rfl)) rfl) 45 rfl (by change 45 < 65; decide) rfl rfl
            case o7 =>
              intro f a u h hfi hp hq
              exact h.skip rfl (wanted_not (g := 3) (d' := 42) rfl rfl (h.at_ 3 rfl (pre_of hp 3 rfl)) rfl) 46 rfl (by change 46 < 65; decide) rfl rfl
            case o8 =>
              intro f a u h hfi hp hq
              exact h.skip rfl (wanted_not (g := 3) (d' := 42) rfl rfl (h.at_ 3 rfl (pre_of hp 3 rfl)) rfl) 47 rfl (by change 47 < 65; decide) rfl rfl
            case o9 =>
              intro f a u h hfi hp hq
              exact h.skip rfl (wanted_not (g := 3) (d' := 42) rfl rfl (h.at_ 3 rfl (pre_of hp 3 rfl)) rfl) 48 rfl (by change 48 < 65; decide) rfl rfl
            case o10 =>
              intro f a u h hfi hp hq
              have q42 := h.att 3 rfl (pre_of hp 3 rfl)
              have q48 := h.att 9 rfl (pre_of hp 9 rfl)
              exact h.yieldW rfl (wanted_none rfl) 49 rfl (by change 49 < 65; decide) rfl _ rfl (by go_simp)
            case o11 =>
              intro f a u h hfi hp hq
              have q49 := h.att 10 rfl (pre_of hp 10 rfl)
              exact h.yieldW rfl (wanted_none rfl) 50 rfl (by change 50 < 65; decide) rfl _ rfl (by go_simp)
            case o12 =>
              intro f a u h hfi hp hq
              exact h.skip rfl (wanted_not (g := 11) (d' := 50) rfl rfl (h.at_ 11 rfl (pre_of hp 11 rfl)) rfl) 51 rfl (by change 51 < 65; decide) rfl rfl
            case o13 =>
              intro f a u h hfi hp hq
              exact h.skip rfl (wanted_not (g := 11) (d' := 50) rfl rfl (h.at_ 11 rfl (pre_of hp 11 rfl)) rfl) 52 rfl (by change 52 < 65; decide) rfl rfl
            case o14 =>
              intro f a u h hfi hp hq
              exact h.skip rfl (wanted_not (g := 11) (d' := 50) rfl rfl (h.at_ 11 rfl (pre_of hp 11 rfl)) rfl) 53 rfl (by change 53 < 65; decide) rfl rfl
            case o15 =>
              intro f a u h hfi hp hq
              exact h.skip rfl (wanted_undef (g := 14) (d' := 53) rfl rfl (h.at_ 14 rfl (pre_of hp 14 rfl))) 54 rfl (by change 54 < 65; decide) rfl rfl
            case o16 =>
              intro f a u h hfi hp hq
              exact h.skip rfl (wanted_undef (g := 14) (d' := 53) rfl rfl (h.at_ 14 rfl (pre_of hp 14 rfl))) 55 rfl (by change 55 < 65; decide) rfl rfl
            case o17 =>
              intro f a u h hfi hp hq
              exact h.skip rfl (wanted_undef (g := 14) (d' := 53) rfl rfl (h.at_ 14 rfl (pre_of hp 14 rfl))) 56 rfl (by change 56 < 65; decide) rfl rfl
            case o18 =>
              intro f a u h hfi hp hq
              exact h.skip rfl (wanted_undef (g := 14) (d' := 53) rfl rfl (h.at_ 14 rfl (pre_of hp 14 rfl))) 57 rfl (by change 57 < 65; decide) rfl rfl
            case o19 =>
              intro f a u h hfi hp hq
              exact h.skip rfl (wanted_undef (g := 14) (d' := 53) rfl rfl (h.at_ 14 rfl (pre_of hp 14 rfl))) 58 rfl (by change 58 < 65; decide) rfl rfl
            case o20 =>
              intro f a u h hfi hp hq
              exact h.skip rfl (wanted_undef (g := 14) (d' := 53) rfl rfl (h.at_ 14 rfl (pre_of hp 14 rfl))) 59 rfl (by change 59 < 65; decide) rfl rfl
            case o21 =>
              intro f a u h hfi hp hq
              exact h.skip rfl (wanted_undef (g := 14) (d' := 53) rfl rfl (h.at_ 14 rfl (pre_of hp 14 rfl))) 60 rfl (by change 60 < 65; decide) rfl rfl
            case o22 =>
              intro f a u h hfi hp hq
              exact h.skip rfl (wanted_undef (g := 14) (d' := 53) rfl rfl (h.at_ 14 rfl (pre_of hp 14 rfl))) 61 rfl (by change 61 < 65; decide) rfl rfl
            case o23 =>
              intro f a u h hfi hp hq
              exact h.skip rfl (wanted_not (g := 11) (d' := 50) rfl rfl (h.at_ 11 rfl (pre_of hp 11 rfl)) rfl) 62 rfl (by change 62 < 65; decide) rfl rfl
            case o24 =>
              intro f a u h hfi hp hq
              have q50 := h.att 11 rfl (pre_of hp 11 rfl)
              have q62 := h.att 23 rfl (pre_of hp 23 rfl)
              exact h.yieldW rfl (wanted_none rfl) 63 rfl (by change 63 < 65; decide) rfl _ rfl (by go_simp)
          · intro f a u h hall hfar
            have hag := h.agree.out
            have e63 := h.at_ 24 rfl (hall 24 (by decide))
            have hye := ((Ext.refl w3).drew).trans h.ext
            simp only [List.foldl_cons, List.foldl_nil, Act.put, List.setIfInBounds_toArray, List.set_cons_zero, List.set_cons_succ, e63] at hag
            generalize a.eval (.tmp 39) = y39 at hag
            generalize a.eval (.tmp 40) = y40 at hag
            generalize a.eval (.tmp 41) = y41 at hag
            generalize a.eval (.tmp 42) = y42 at hag
            generalize a.eval (.tmp 43) = y43 at hag
            generalize a.eval (.tmp 44) = y44 at hag
            generalize a.eval (.tmp 45) = y45 at hag
            generalize a.eval (.tmp 46) = y46 at hag
            generalize a.eval (.tmp 47) = y47 at hag
            generalize a.eval (.tmp 48) = y48 at hag
            generalize a.eval (.tmp 49) = y49 at hag
            generalize a.eval (.tmp 50) = y50 at hag
            generalize a.eval (.tmp 51) = y51 at hag
            generalize a.eval (.tmp 52) = y52 at hag
            generalize a.eval (.tmp 53) = y53 at hag
            generalize a.eval (.tmp 54) = y54 at hag
            generalize a.eval (.tmp 55) = y55 at hag
            generalize a.eval (.tmp 56) = y56 at hag
            generalize a.eval (.tmp 57) = y57 at hag
            generalize a.eval (.tmp 58) = y58 at hag
            generalize a.eval (.tmp 59) = y59 at hag
            generalize a.eval (.tmp 60) = y60 at hag
            generalize a.eval (.tmp 61) = y61 at hag
            generalize a.eval (.tmp 62) = y62 at hag
            clear h hall hfar e63
            subst hag
            go_wp2
            go_ret
            exact ⟨ret_bool HF.out.symm, hxw.trans hye⟩
        | true =>
          rw [hgood] at HGP HOK
          have hkb : (((idKind p).toNat : Int) == ((idKind c.root).toNat : Int)) = (idKind p == idKind c.root) := by
            rw [Bool.eq_iff_iff]
            simp only [beq_iff_eq]
            exact ⟨fun e => UInt8.toNat_inj.1 (by omega), fun e => by rw [e]⟩
          cases hkk : idKind p == idKind c.root with
          | false =>
            rw [hkk] at hkb
            have hkn : (((idKind p).toNat : Int) != ((idKind c.root).toNat : Int)) = true := by unfold bne; rw [hkb]; rfl
            have HF := Lib.hid (HNO.out (by rw [HOK.out, hkk, Bool.false_and, Bool.and_false]))
            refine wp_region_ops (RInv [39, 40, 41, 42, 43, 44, 45, 46, 47, 48, 49, 50, 51, 52, 53, 54, 55, 56, 57, 58, 59, 60, 61, 62, 63] _ w3.drew [(0, 39, .agg (bv p).toArray), (1, 40, .bool true), (2, 41, .bool false), (3, 42, .bool false), (4, 43, .pointer (some ⟨g4, 0, none⟩)), (5, 44, .int .u8 ((idKind p).toNat : Int)), (6, 45, .pointer (some ⟨w.heap.size, 0, none⟩)), (7, 46, .pointer (some ⟨w.heap.size, 0, none⟩)), (8, 47, .int .u8 ((idKind c.root).toNat : Int)), (9, 48, .bool true), (10, 49, .bool true), (11, 50, .bool true), (12, 51, undef), (13, 52, undef), (14, 53, undef), (15, 54, undef), (16, 55, undef), (17, 56, undef), (18, 57, undef), (19, 58, undef), (20, 59, undef), (21, 60, undef), (22, 61, undef), (23, 62, undef), (24, 63, .bool true)] []) (by kernel_rfl) (by kernel_rfl) RInv.start ?_ ?_
            · refine ⟨?o0, ?o1, ?o2, ?o3, ?o4, ?o5, ?o6, ?o7, ?o8, ?o9, ?o10, ?o11, ?o12, ?o13, ?o14, ?o15, ?o16, ?o17, ?o18, ?o19, ?o20, ?o21, ?o22, ?o23, ?o24, trivial⟩
              case o0 =>
                intro f a u h hfi hp hq
                have hyu : Ext w3 u := ((Ext.refl w3).drew).trans h.ext
                exact h.yieldW rfl (wanted_none rfl) 39 rfl (by change 39 < 65; decide) rfl _ rfl (run_of_sem rfl (by rw [(show a.eval (.tmp 4) = .pointer (some ⟨g4, 0, none⟩) from h.agree.eval (by decide))]; exact run_load_blk (HB4.out.ext hyu) Tryd.underlying27 rfl (by rw [List.size_toArray, bv_len, HPL.out]; exact id_info)))
              case o1 =>
                intro f a u h hfi hp hq
                exact h.callW rfl (wanted_none rfl) 40 rfl (by change 40 < 65; decide) rfl _ rfl 93 #[.tmp 39] #[27] _ rfl (by kernel_rfl) (by rw [arr1, h.at_ 0 rfl (pre_of hp 0 rfl)]) (HGP u)
              case o2 =>
                intro f a u h hfi hp hq
                have q40 := h.att 1 rfl (pre_of hp 1 rfl)
                exact h.yieldW rfl (wanted_none rfl) 41 rfl (by change 41 < 65; decide) rfl _ rfl (by go_simp)
              case o3 =>
                intro f a u h hfi hp hq
                have q41 := h.att 2 rfl (pre_of hp 2 rfl)
                exact h.yieldW rfl (wanted_none rfl) 42 rfl (by change 42 < 65; decide) rfl _ rfl (by go_simp)
              case o4 =>
                intro f a u h hfi hp hq
                exact h.yieldW rfl (wanted_yes (g := 3) (d' := 42) rfl rfl (h.at_ 3 rfl (pre_of hp 3 rfl))) 43 rfl (by change 43 < 65; decide) rfl _ rfl (run_of_sem rfl (by rw [(show a.eval (.tmp 4) = .pointer (some ⟨g4, 0, none⟩) from h.agree.eval (by decide))]; exact f_id0 _ _))
              case o5 =>
                intro f a u h hfi hp hq
                have hyu : Ext w3 u := ((Ext.refl w3).drew).trans h.ext
                exact h.yieldW rfl (wanted_yes (g := 3) (d' := 42) rfl rfl (h.at_ 3 rfl (pre_of hp 3 rfl))) 44 rfl (by change 44 < 65; decide) rfl _ rfl (run_of_sem rfl (by rw [h.at_ 4 rfl (pre_of hp 4 rfl)]; exact ld_u8 (Cells.head (id_box (HB4.out.ext hyu)) (by rw [HPL.out]; decide))))
              case o6 =>
                intro f a u h hfi hp hq
                exact h.yieldW rfl (wanted_yes (g := 3) (d' := 42) rfl rfl (h.at_ 3 rfl (pre_of hp 3 rfl))) 45 rfl (by change 45 < 65; decide) rfl _ rfl (run_of_sem rfl (by rw [(show a.eval (.tmp 1) = .pointer (some ⟨w.heap.size, 0, none⟩) from h.agree.eval (by decide))]; exact f_cm0 _ _))
              case o7 =>
                intro f a u h hfi hp hq
                exact h.yieldW rfl (wanted_yes (g := 3) (d' := 42) rfl rfl (h.at_ 3 rfl (pre_of hp 3 rfl))) 46 rfl (by change 46 < 65; decide) rfl _ rfl (run_of_sem rfl (by rw [h.at_ 6 rfl (pre_of hp 6 rfl)]; exact f_id0 _ _))
              case o8 =>
                intro f a u h hfi hp hq
                have hyu : Ext w3 u := ((Ext.refl w3).drew).trans h.ext
                exact h.yieldW rfl (wanted_yes (g := 3) (d' := 42) rfl rfl (h.at_ 3 rfl (pre_of hp 3 rfl))) 47 rfl (by change 47 < 65; decide) rfl _ rfl (run_of_sem rfl (by rw [h.at_ 7 rfl (pre_of hp 7 rfl)]; exact ld_u8 (Cells.head (cm_cells (HB1.out.ext hyu) HR.out).1 (by rw [HR.out]; decide))))
              case o9 =>
                intro f a u h hfi hp hq
                have q44 := h.att 5 rfl (pre_of hp 5 rfl)
                have q47 := h.att 8 rfl (pre_of hp 8 rfl)
                exact h.yieldW rfl (wanted_yes (g := 3) (d' := 42) rfl rfl (h.at_ 3 rfl (pre_of hp 3 rfl))) 48 rfl (by change 48 < 65; decide) rfl _ rfl (by go_simp)
              case o10 =>
                intro f a u h hfi hp hq
                have q42 := h.att 3 rfl (pre_of hp 3 rfl)
                have q48 := h.att 9 rfl (pre_of hp 9 rfl)
                exact h.yieldW rfl (wanted_none rfl) 49 rfl (by change 49 < 65; decide) rfl _ rfl (by go_simp)
              case o11 =>
                intro f a u h hfi hp hq
                have q49 := h.att 10 rfl (pre_of hp 10 rfl)
                exact h.yieldW rfl (wanted_none rfl) 50 rfl (by change 50 < 65; decide) rfl _ rfl (by go_simp)
              case o12 =>
                intro f a u h hfi hp hq
                exact h.skip rfl (wanted_not (g := 11) (d' := 50) rfl rfl (h.at_ 11 rfl (pre_of hp 11 rfl)) rfl) 51 rfl (by change 51 < 65; decide) rfl rfl
              case o13 =>
                intro f a u h hfi hp hq
                exact h.skip rfl (wanted_not (g := 11) (d' := 50) rfl rfl (h.at_ 11 rfl (pre_of hp 11 rfl)) rfl) 52 rfl (by change 52 < 65; decide) rfl rfl
              case o14 =>
                intro f a u h hfi hp hq
                exact h.skip rfl (wanted_not (g := 11) (d' := 50) rfl rfl (h.at_ 11 rfl (pre_of hp 11 rfl)) rfl) 53 rfl (by change 53 < 65; decide) rfl rfl
              case o15 =>
                intro f a u h hfi hp hq
                exact h.skip rfl (wanted_undef (g := 14) (d' := 53) rfl rfl (h.at_ 14 rfl (pre_of hp 14 rfl))) 54 rfl (by change 54 < 65; decide) rfl rfl
              case o16 =>
                intro f a u h hfi hp hq
                exact h.skip rfl (wanted_undef (g := 14) (d' := 53) rfl rfl (h.at_ 14 rfl (pre_of hp 14 rfl))) 55 rfl (by change 55 < 65; decide) rfl rfl
              case o17 =>
                intro f a u h hfi hp hq
                exact h.skip rfl (wanted_undef (g := 14) (d' := 53) rfl rfl (h.at_ 14 rfl (pre_of hp 14 rfl))) 56 rfl (by change 56 < 65; decide) rfl rfl
              case o18 =>
                intro f a u h hfi hp hq
                exact h.skip rfl (wanted_undef (g := 14) (d' := 53) rfl rfl (h.at_ 14 rfl (pre_of hp 14 rfl))) 57 rfl (by change 57 < 65; decide) rfl rfl
              case o19 =>
                intro f a u h hfi hp hq
                exact h.skip rfl (wanted_undef (g := 14) (d' := 53) rfl rfl (h.at_ 14 rfl (pre_of hp 14 rfl))) 58 rfl (by change 58 < 65; decide) rfl rfl
              case o20 =>
                intro f a u h hfi hp hq
                exact h.skip rfl (wanted_undef (g := 14) (d' := 53) rfl rfl (h.at_ 14 rfl (pre_of hp 14 rfl))) 59 rfl (by change 59 < 65; decide) rfl rfl
              case o21 =>
                intro f a u h hfi hp hq
                exact h.skip rfl (wanted_undef (g := 14) (d' := 53) rfl rfl (h.at_ 14 rfl (pre_of hp 14 rfl))) 60 rfl (by change 60 < 65; decide) rfl rfl
              case o22 =>
                intro f a u h hfi hp hq
                exact h.skip rfl (wanted_undef (g := 14) (d' := 53) rfl rfl (h.at_ 14 rfl (pre_of hp 14 rfl))) 61 rfl (by change 61 < 65; decide) rfl rfl
              case o23 =>
                intro f a u h hfi hp hq
                exact h.skip rfl (wanted_not (g := 11) (d' := 50) rfl rfl (h.at_ 11 rfl (pre_of hp 11 rfl)) rfl) 62 rfl (by change 62 < 65; decide) rfl rfl
              case o24 =>
                intro f a u h hfi hp hq
                have q50 := h.att 11 rfl (pre_of hp 11 rfl)
                have q62 := h.att 23 rfl (pre_of hp 23 rfl)
                exact h.yieldW rfl (wanted_none rfl) 63 rfl (by change 63 < 65; decide) rfl _ rfl (by go_simp)
            · intro f a u h hall hfar
              have hag := h.agree.out
              have e63 := h.at_ 24 rfl (hall 24 (by decide))
              have hye := ((Ext.refl w3).drew).trans h.ext
              simp only [List.foldl_cons, List.foldl_nil, Act.put, List.setIfInBounds_toArray, List.set_cons_zero, List.set_cons_succ, e63] at hag
              generalize a.eval (.tmp 39) = y39 at hag
              generalize a.eval (.tmp 40) = y40 at hag
              generalize a.eval (.tmp 41) = y41 at hag
              generalize a.eval (.tmp 42) = y42 at hag
              generalize a.eval (.tmp 43) = y43 at hag
              generalize a.eval (.tmp 44) = y44 at hag
              generalize a.eval (.tmp 45) = y45 at hag
              generalize a.eval (.tmp 46) = y46 at hag
              generalize a.eval (.tmp 47) = y47 at hag
              generalize a.eval (.tmp 48) = y48 at hag
              generalize a.eval (.tmp 49) = y49 at hag
              generalize a.eval (.tmp 50) = y50 at hag
              generalize a.eval (.tmp 51) = y51 at hag
              generalize a.eval (.tmp 52) = y52 at hag
              generalize a.eval (.tmp 53) = y53 at hag
              generalize a.eval (.tmp 54) = y54 at hag
              generalize a.eval (.tmp 55) = y55 at hag
              generalize a.eval (.tmp 56) = y56 at hag
              generalize a.eval (.tmp 57) = y57 at hag
              generalize a.eval (.tmp 58) = y58 at hag
              generalize a.eval (.tmp 59) = y59 at hag
              generalize a.eval (.tmp 60) = y60 at hag
              generalize a.eval (.tmp 61) = y61 at hag
              generalize a.eval (.tmp 62) = y62 at hag
              clear h hall hfar e63
              subst hag
              go_wp2
              go_ret
              exact ⟨ret_bool HF.out.symm, hxw.trans hye⟩
          | true =>
            rw [hkk] at hkb HOK
            have hkn : (((idKind p).toNat : Int) != ((idKind c.root).toNat : Int)) = false := by unfold bne; rw [hkb]; rfl
            by_cases hpos : 0 < k
            · have hi1 : (0 : Int) < (k : Int) := by omega
              obtain ⟨j, hj⟩ : ∃ j, j = k - 1 := ⟨_, rfl⟩
              have hjk : j < Q := by omega
              have e1 : (k : Int) - 1 = (j : Int) := by omega
              have e2 : IntKind.i64.wrap (j : Int) = (j : Int) := by rw [IntKind.wrap_i64]; omega
              have hjl : j < c.parents.length := by rw [Hh.out.hq]; exact hjk
              obtain ⟨y, hy, rp, _⟩ := id_row (Hh.out.cq.ext hxw) hjl
              cases hy
              have eq := paAt_get hjl
              have hpjl : (c.parents[j]).length = 33 := Hh.out.sq _ (List.getElem_mem hjl)
              obtain ⟨pj, hpj⟩ : ∃ pj, pj = c.parents[j] := ⟨_, rfl⟩
              rw [← hpj] at rp eq hpjl
              rw [← hj, eq, show (k == 0) = false from by rw [beq_eq_false_iff_ne]; omega] at HOK
              have HRJ := Lib.hid rp
              have HPJL := Lib.hid hpjl
              have HEQ := fun w' => id_equal pj p HPJL.out HPL.out w'
              clear hpj eq rp hj hpjl
              cases hb : pj == p with
              | true =>
                rw [hb] at HEQ HOK
                have HF := Lib.hid (HNO.out HOK.out)
                refine wp_region_ops (RInv [39, 40, 41, 42, 43, 44, 45, 46, 47, 48, 49, 50, 51, 52, 53, 54, 55, 56, 57, 58, 59, 60, 61, 62, 63] _ w3.drew [(0, 39, .agg (bv p).toArray), (1, 40, .bool true), (2, 41, .bool false), (3, 42, .bool false), (4, 43, .pointer (some ⟨g4, 0, none⟩)), (5, 44, .int .u8 ((idKind p).toNat : Int)), (6, 45, .pointer (some ⟨w.heap.size, 0, none⟩)), (7, 46, .pointer (some ⟨w.heap.size, 0, none⟩)), (8, 47, .int .u8 ((idKind c.root).toNat : Int)), (9, 48, .bool false), (10, 49, .bool false), (11, 50, .bool false), (12, 51, .int .i64 (k : Int)), (13, 52, .bool true), (14, 53, .bool true), (15, 54, .pointer (some ⟨w.heap.size, 33, none⟩)), (16, 55, .slice (some x) Q qc), (17, 56, .int .i64 (k : Int)), (18, 57, .int .i64 (j : Int)), (19, 58, .pointer (some (x.add (j * 33)))), (20, 59, .agg (bv pj).toArray), (21, 60, .agg (bv p).toArray), (22, 61, .bool true), (23, 62, .bool true), (24, 63, .bool true)] []) (by kernel_rfl) (by kernel_rfl) RInv.start ?_ ?_
                · refine ⟨?o0, ?o1, ?o2, ?o3, ?o4, ?o5, ?o6, ?o7, ?o8, ?o9, ?o10, ?o11, ?o12, ?o13, ?o14, ?o15, ?o16, ?o17, ?o18, ?o19, ?o20, ?o21, ?o22, ?o23, ?o24, trivial⟩
                  case o0 =>
                    intro f a u h hfi hp hq
                    have hyu : Ext w3 u := ((Ext.refl w3).drew).trans h.ext
                    exact h.yieldW rfl (wanted_none rfl) 39 rfl (by change 39 < 65; decide) rfl _ rfl (run_of_sem rfl (by rw [(show a.eval (.tmp 4) = .pointer (some ⟨g4, 0, none⟩) from h.agree.eval (by decide))]; exact run_load_blk (HB4.out.ext hyu) Tryd.underlying27 rfl (by rw [List.size_toArray, bv_len, HPL.out]; exact id_info)))
                  case o1 =>
                    intro f a u h hfi hp hq
                    exact h.callW rfl (wanted_none rfl) 40 rfl (by change 40 < 65; decide) rfl _ rfl 93 #[.tmp 39] #[27] _ rfl (by kernel_rfl) (by rw [arr1, h.at_ 0 rfl (pre_of hp 0 rfl)]) (HGP u)
                  case o2 =>
                    intro f a u h hfi hp hq
                    have q40 := h.att 1 rfl (pre_of hp 1 rfl)
                    exact h.yieldW rfl (wanted_none rfl) 41 rfl (by change 41 < 65; decide) rfl _ rfl (by go_simp)
                  case o3 =>
                    intro f a u h hfi hp hq
                    have q41 := h.att 2 rfl (pre_of hp 2 rfl)
                    exact h.yieldW rfl (wanted_none rfl) 42 rfl (by change 42 < 65; decide) rfl _ rfl (by go_simp)
                  case o4 =>
                    intro f a u h hfi hp hq
                    exact h.yieldW rfl (wanted_yes (g := 3) (d' := 42) rfl rfl (h.at_ 3 rfl (pre_of hp 3 rfl))) 43 rfl (by change 43 < 65; decide) rfl _ rfl (run_of_sem rfl (by rw [(show a.eval (.tmp 4) = .pointer (some ⟨g4, 0, none⟩) from h.agree.eval (by decide))]; exact f_id0 _ _))
                  case o5 =>
                    intro f a u h hfi hp hq
                    have hyu : Ext w3 u := ((Ext.refl w3).drew).trans h.ext
                    exact h.yieldW rfl (wanted_yes (g := 3) (d' := 42) rfl rfl (h.at_ 3 rfl (pre_of hp 3 rfl))) 44 rfl (by change 44 < 65; decide) rfl _ rfl (run_of_sem rfl (by rw [h.at_ 4 rfl (pre_of hp 4 rfl)]; exact ld_u8 (Cells.head (id_box (HB4.out.ext hyu)) (by rw [HPL.out]; decide))))
                  case o6 =>
                    intro f a u h hfi hp hq
                    exact h.yieldW rfl (wanted_yes (g := 3) (d' := 42) rfl rfl (h.at_ 3 rfl (pre_of hp 3 rfl))) 45 rfl (by change 45 < 65; decide) rfl _ rfl (run_of_sem rfl (by rw [(show a.eval (.tmp 1) = .pointer (some ⟨w.heap.size, 0, none⟩) from h.agree.eval (by decide))]; exact f_cm0 _ _))
                  case o7 =>
                    intro f a u h hfi hp hq
                    exact h.yieldW rfl (wanted_yes (g := 3) (d' := 42) rfl rfl (h.at_ 3 rfl (pre_of hp 3 rfl))) 46 rfl (by change 46 < 65; decide) rfl _ rfl (run_of_sem rfl (by rw [h.at_ 6 rfl (pre_of hp 6 rfl)]; exact f_id0 _ _))
                  case o8 =>
                    intro f a u h hfi hp hq
                    have hyu : Ext w3 u := ((Ext.refl w3).drew).trans h.ext
                    exact h.yieldW rfl (wanted_yes (g := 3) (d' := 42) rfl rfl (h.at_ 3 rfl (pre_of hp 3 rfl))) 47 rfl (by change 47 < 65; decide) rfl _ rfl (run_of_sem rfl (by rw [h.at_ 7 rfl (pre_of hp 7 rfl)]; exact ld_u8 (Cells.head (cm_cells (HB1.out.ext hyu) HR.out).1 (by rw [HR.out]; decide))))
                  case o9 =>
                    intro f a u h hfi hp hq
                    have q44 := h.att 5 rfl (pre_of hp 5 rfl)
                    have q47 := h.att 8 rfl (pre_of hp 8 rfl)
                    exact h.yieldW rfl (wanted_yes (g := 3) (d' := 42) rfl rfl (h.at_ 3 rfl (pre_of hp 3 rfl))) 48 rfl (by change 48 < 65; decide) rfl _ rfl (by go_simp)
                  case o10 =>
                    intro f a u h hfi hp hq
                    have q42 := h.att 3 rfl (pre_of hp 3 rfl)
                    have q48 := h.att 9 rfl (pre_of hp 9 rfl)
                    exact h.yieldW rfl (wanted_none rfl) 49 rfl (by change 49 < 65; decide) rfl _ rfl (by go_simp)
                  case o11 =>
                    intro f a u h hfi hp hq
                    have q49 := h.att 10 rfl (pre_of hp 10 rfl)
                    exact h.yieldW rfl (wanted_none rfl) 50 rfl (by change 50 < 65; decide) rfl _ rfl (by go_simp)
                  case o12 =>
                    intro f a u h hfi hp hq
                    have q3 : a.tmps[3]?.getD undef = .int .i64 (k : Int) := h.agree.att (by decide)
                    exact h.yieldW rfl (wanted_yes (g := 11) (d' := 50) rfl rfl (h.at_ 11 rfl (pre_of hp 11 rfl))) 51 rfl (by change 51 < 65; decide) rfl _ rfl (by go_simp)
                  case o13 =>
                    intro f a u h hfi hp hq
                    have q51 := h.att 12 rfl (pre_of hp 12 rfl)
                    exact h.yieldW rfl (wanted_yes (g := 11) (d' := 50) rfl rfl (h.at_ 11 rfl (pre_of hp 11 rfl))) 52 rfl (by change 52 < 65; decide) rfl _ rfl (by go_simp)
                  case o14 =>
                    intro f a u h hfi hp hq
                    have q52 := h.att 13 rfl (pre_of hp 13 rfl)
                    exact h.yieldW rfl (wanted_yes (g := 11) (d' := 50) rfl rfl (h.at_ 11 rfl (pre_of hp 11 rfl))) 53 rfl (by change 53 < 65; decide) rfl _ rfl (by go_simp)
                  case o15 =>
                    intro f a u h hfi hp hq
                    exact h.yieldW rfl (wanted_yes (g := 14) (d' := 53) rfl rfl (h.at_ 14 rfl (pre_of hp 14 rfl))) 54 rfl (by change 54 < 65; decide) rfl _ rfl (run_of_sem rfl (by rw [(show a.eval (.tmp 1) = .pointer (some ⟨w.heap.size, 0, none⟩) from h.agree.eval (by decide))]; exact f_cm1 _ _))
                  case o16 =>
                    intro f a u h hfi hp hq
                    have hyu : Ext w3 u := ((Ext.refl w3).drew).trans h.ext
                    exact h.yieldW rfl (wanted_yes (g := 14) (d' := 53) rfl rfl (h.at_ 14 rfl (pre_of hp 14 rfl))) 55 rfl (by change 55 < 65; decide) rfl _ rfl (run_of_sem rfl (by rw [h.at_ 15 rfl (pre_of hp 15 rfl)]; exact ld_ids (cm_cells (HB1.out.ext hyu) HR.out).2.1))
                  case o17 =>
                    intro f a u h hfi hp hq
                    have q3 : a.tmps[3]?.getD undef = .int .i64 (k : Int) := h.agree.att (by decide)
                    exact h.yieldW rfl (wanted_yes (g := 14) (d' := 53) rfl rfl (h.at_ 14 rfl (pre_of hp 14 rfl))) 56 rfl (by change 56 < 65; decide) rfl _ rfl (by go_simp)
                  case o18 =>
                    intro f a u h hfi hp hq
                    have q56 := h.att 17 rfl (pre_of hp 17 rfl)
                    exact h.yieldW rfl (wanted_yes (g := 14) (d' := 53) rfl rfl (h.at_ 14 rfl (pre_of hp 14 rfl))) 57 rfl (by change 57 < 65; decide) rfl _ rfl (by go_simp)
                  case o19 =>
                    intro f a u h hfi hp hq
                    exact h.yieldW rfl (wanted_yes (g := 14) (d' := 53) rfl rfl (h.at_ 14 rfl (pre_of hp 14 rfl))) 58 rfl (by change 58 < 65; decide) rfl _ rfl (run_of_sem rfl (by rw [h.at_ 16 rfl (pre_of hp 16 rfl), h.at_ 18 rfl (pre_of hp 18 rfl)]; exact ix_id (i := j) rfl hjk))
                  case o20 =>
                    intro f a u h hfi hp hq
                    have hyu : Ext w3 u := ((Ext.refl w3).drew).trans h.ext
                    exact h.yieldW rfl (wanted_yes (g := 14) (d' := 53) rfl rfl (h.at_ 14 rfl (pre_of hp 14 rfl))) 59 rfl (by change 59 < 65; decide) rfl _ rfl (run_of_sem rfl (by rw [h.at_ 19 rfl (pre_of hp 19 rfl)]; exact ld_id HPJL.out (HRJ.out.ext hyu)))
                  case o21 =>
                    intro f a u h hfi hp hq
                    have hyu : Ext w3 u := ((Ext.refl w3).drew).trans h.ext
                    exact h.yieldW rfl (wanted_yes (g := 14) (d' := 53) rfl rfl (h.at_ 14 rfl (pre_of hp 14 rfl))) 60 rfl (by change 60 < 65; decide) rfl _ rfl (run_of_sem rfl (by rw [(show a.eval (.tmp 4) = .pointer (some ⟨g4, 0, none⟩) from h.agree.eval (by decide))]; exact run_load_blk (HB4.out.ext hyu) Tryd.underlying27 rfl (by rw [List.size_toArray, bv_len, HPL.out]; exact id_info)))
                  case o22 =>
                    intro f a u h hfi hp hq
                    have q59 := h.att 20 rfl (pre_of hp 20 rfl)
                    have q60 := h.att 21 rfl (pre_of hp 21 rfl)
                    have z := HEQ u
                    exact h.yieldW rfl (wanted_yes (g := 14) (d' := 53) rfl rfl (h.at_ 14 rfl (pre_of hp 14 rfl))) 61 rfl (by change 61 < 65; decide) rfl _ rfl (by go_simp)
                  case o23 =>
                    intro f a u h hfi hp hq
                    have q53 := h.att 14 rfl (pre_of hp 14 rfl)
                    have q61 := h.att 22 rfl (pre_of hp 22 rfl)
                    exact h.yieldW rfl (wanted_yes (g := 11) (d' := 50) rfl rfl (h.at_ 11 rfl (pre_of hp 11 rfl))) 62 rfl (by change 62 < 65; decide) rfl _ rfl (by go_simp)
                  case o24 =>
                    intro f a u h hfi hp hq
                    have q50 := h.att 11 rfl (pre_of hp 11 rfl)
                    have q62 := h.att 23 rfl (pre_of hp 23 rfl)
                    exact h.yieldW rfl (wanted_none rfl) 63 rfl (by change 63 < 65; decide) rfl _ rfl (by go_simp)
                · intro f a u h hall hfar
                  have hag := h.agree.out
                  have e63 := h.at_ 24 rfl (hall 24 (by decide))
                  have hye := ((Ext.refl w3).drew).trans h.ext
                  simp only [List.foldl_cons, List.foldl_nil, Act.put, List.setIfInBounds_toArray, List.set_cons_zero, List.set_cons_succ, e63] at hag
                  generalize a.eval (.tmp 39) = y39 at hag
                  generalize a.eval (.tmp 40) = y40 at hag
                  generalize a.eval (.tmp 41) = y41 at hag
                  generalize a.eval (.tmp 42) = y42 at hag
                  generalize a.eval (.tmp 43) = y43 at hag
                  generalize a.eval (.tmp 44) = y44 at hag
                  generalize a.eval (.tmp 45) = y45 at hag
                  generalize a.eval (.tmp 46) = y46 at hag
                  generalize a.eval (.tmp 47) = y47 at hag
                  generalize a.eval (.tmp 48) = y48 at hag
                  generalize a.eval (.tmp 49) = y49 at hag
                  generalize a.eval (.tmp 50) = y50 at hag
                  generalize a.eval (.tmp 51) = y51 at hag
                  generalize a.eval (.tmp 52) = y52 at hag
                  generalize a.eval (.tmp 53) = y53 at hag
                  generalize a.eval (.tmp 54) = y54 at hag
                  generalize a.eval (.tmp 55) = y55 at hag
                  generalize a.eval (.tmp 56) = y56 at hag
                  generalize a.eval (.tmp 57) = y57 at hag
                  generalize a.eval (.tmp 58) = y58 at hag
                  generalize a.eval (.tmp 59) = y59 at hag
                  generalize a.eval (.tmp 60) = y60 at hag
                  generalize a.eval (.tmp 61) = y61 at hag
                  generalize a.eval (.tmp 62) = y62 at hag
                  clear h hall hfar e63
                  subst hag
                  go_wp2
                  go_ret
                  exact ⟨ret_bool HF.out.symm, hxw.trans hye⟩
              | false =>
                rw [hb] at HEQ HOK
                have HT := Lib.hid (show paOk c k = true from HOK.out)
                refine wp_region_ops (RInv [39, 40, 41, 42, 43, 44, 45, 46, 47, 48, 49, 50, 51, 52, 53, 54, 55, 56, 57, 58, 59, 60, 61, 62, 63] _ w3.drew [(0, 39, .agg (bv p).toArray), (1, 40, .bool true), (2, 41, .bool false), (3, 42, .bool false), (4, 43, .pointer (some ⟨g4, 0, none⟩)), (5, 44, .int .u8 ((idKind p).toNat : Int)), (6, 45, .pointer (some ⟨w.heap.size, 0, none⟩)), (7, 46, .pointer (some ⟨w.heap.size, 0, none⟩)), (8, 47, .int .u8 ((idKind c.root).toNat : Int)), (9, 48, .bool false), (10, 49, .bool false), (11, 50, .bool false), (12, 51, .int .i64 (k : Int)), (13, 52, .bool true), (14, 53, .bool true), (15, 54, .pointer (some ⟨w.heap.size, 33, none⟩)), (16, 55, .slice (some x) Q qc), (17, 56, .int .i64 (k : Int)), (18, 57, .int .i64 (j : Int)), (19, 58, .pointer (some (x.add (j * 33)))), (20, 59, .agg (bv pj).toArray), (21, 60, .agg (bv p).toArray), (22, 61, .bool false), (23, 62, .bool false), (24, 63, .bool false)] []) (by kernel_rfl) (by kernel_rfl) RInv.start ?_ ?_
                · refine ⟨?o0, ?o1, ?o2, ?o3, ?o4, ?o5, ?o6, ?o7, ?o8, ?o9, ?o10, ?o11, ?o12, ?o13, ?o14, ?o15, ?o16, ?o17, ?o18, ?o19, ?o20, ?o21, ?o22, ?o23, ?o24, trivial⟩
                  case o0 =>
                    intro f a u h hfi hp hq
                    have hyu : Ext w3 u := ((Ext.refl w3).drew).trans h.ext
                    exact h.yieldW rfl (wanted_none rfl) 39 rfl (by change 39 < 65; decide) rfl _ rfl (run_of_sem rfl (by rw [(show a.eval (.tmp 4) = .pointer (some ⟨g4, 0, none⟩) from h.agree.eval (by decide))]; exact run_load_blk (HB4.out.ext hyu) Tryd.underlying27 rfl (by rw [List.size_toArray, bv_len, HPL.out]; exact id_info)))
                  case o1 =>
                    intro f a u h hfi hp hq
                    exact h.callW rfl (wanted_none rfl) 40 rfl (by change 40 < 65; decide) rfl _ rfl 93 #[.tmp 39] #[27] _ rfl (by kernel_rfl) (by rw [arr1, h.at_ 0 rfl (pre_of hp 0 rfl)]) (HGP u)
                  case o2 =>
                    intro f a u h hfi hp hq
                    have q40 := h.att 1 rfl (pre_of hp 1 rfl)
                    exact h.yieldW rfl (wanted_none rfl) 41 rfl (by change 41 < 65; decide) rfl _ rfl (by go_simp)
                  case o3 =>
                    intro f a u h hfi hp hq
                    have q41 := h.att 2 rfl (pre_of hp 2 rfl)
                    exact h.yieldW rfl (wanted_none rfl) 42 rfl (by change 42 < 65; decide) rfl _ rfl (by go_simp)
                  case o4 =>
                    intro f a u h hfi hp hq
                    exact h.yieldW rfl (wanted_yes (g := 3) (d' := 42) rfl rfl (h.at_ 3 rfl (pre_of hp 3 rfl))) 43 rfl (by change 43 < 65; decide) rfl _ rfl (run_of_sem rfl (by rw [(show a.eval (.tmp 4) = .pointer (some ⟨g4, 0, none⟩) from h.agree.eval (by decide))]; exact f_id0 _ _))
                  case o5 =>
                    intro f a u h hfi hp hq
                    have hyu : Ext w3 u := ((Ext.refl w3).drew).trans h.ext
                    exact h.yieldW rfl (wanted_yes (g := 3) (d' := 42) rfl rfl (h.at_ 3 rfl (pre_of hp 3 rfl))) 44 rfl (by change 44 < 65; decide) rfl _ rfl (run_of_sem rfl (by rw [h.at_ 4 rfl (pre_of hp 4 rfl)]; exact ld_u8 (Cells.head (id_box (HB4.out.ext hyu)) (by rw [HPL.out]; decide))))
                  case o6 =>
                    intro f a u h hfi hp hq
                    exact h.yieldW rfl (wanted_yes (g := 3) (d' := 42) rfl rfl (h.at_ 3 rfl (pre_of hp 3 rfl))) 45 rfl (by change 45 < 65; decide) rfl _ rfl (run_of_sem rfl (by rw [(show a.eval (.tmp 1) = .pointer (some ⟨w.heap.size, 0, none⟩) from h.agree.eval (by decide))]; exact f_cm0 _ _))
                  case o7 =>
                    intro f a u h hfi hp hq
                    exact h.yieldW rfl (wanted_yes (g := 3) (d' := 42) rfl rfl (h.at_ 3 rfl (pre_of hp 3 rfl))) 46 rfl (by change 46 < 65; decide) rfl _ rfl (run_of_sem rfl (by rw [h.at_ 6 rfl (pre_of hp 6 rfl)]; exact f_id0 _ _))
                  case o8 =>
                    intro f a u h hfi hp hq
                    have hyu : Ext w3 u := ((Ext.refl w3).drew).trans h.ext
                    exact h.yieldW rfl (wanted_yes (g := 3) (d' := 42) rfl rfl (h.at_ 3 rfl (pre_of hp 3 rfl))) 47 rfl (by change 47 < 65; decide) rfl _ rfl (run_of_sem rfl (by rw [h.at_ 7 rfl (pre_of hp 7 rfl)]; exact ld_u8 (Cells.head (cm_cells (HB1.out.ext hyu) HR.out).1 (by rw [HR.out]; decide))))
                  case o9 =>
                    intro f a u h hfi hp hq
                    have q44 := h.att 5 rfl (pre_of hp 5 rfl)
                    have q47 := h.att 8 rfl (pre_of hp 8 rfl)
                    exact h.yieldW rfl (wanted_yes (g := 3) (d' := 42) rfl rfl (h.at_ 3 rfl (pre_of hp 3 rfl))) 48 rfl (by change 48 < 65; decide) rfl _ rfl (by go_simp)
                  case o10 =>
                    intro f a u h hfi hp hq
                    have q42 := h.att 3 rfl (pre_of hp 3 rfl)
                    have q48 := h.att 9 rfl (pre_of hp 9 rfl)
                    exact h.yieldW rfl (wanted_none rfl) 49 rfl (by change 49 < 65; decide) rfl _ rfl (by go_simp)
                  case o11 =>
                    intro f a u h hfi hp hq
                    have q49 := h.att 10 rfl (pre_of hp 10 rfl)
                    exact h.yieldW rfl (wanted_none rfl) 50 rfl (by change 50 < 65; decide) rfl _ rfl (by go_simp)
                  case o12 =>
                    intro f a u h hfi hp hq
                    have q3 : a.tmps[3]?.getD undef = .int .i64 (k : Int) := h.agree.att (by decide)
                    exact h.yieldW rfl (wanted_yes (g := 11) (d' := 50) rfl rfl (h.at_ 11 rfl (pre_of hp 11 rfl))) 51 rfl (by change 51 < 65; decide) rfl _ rfl (by go_simp)
                  case o13 =>
                    intro f a u h hfi hp hq
                    have q51 := h.att 12 rfl (pre_of hp 12 rfl)
                    exact h.yieldW rfl (wanted_yes (g := 11) (d' := 50) rfl rfl (h.at_ 11 rfl (pre_of hp 11 rfl))) 52 rfl (by change 52 < 65; decide) rfl _ rfl (by go_simp)
                  case o14 =>
                    intro f a u h hfi hp hq
                    have q52 := h.att 13 rfl (pre_of hp 13 rfl)
                    exact h.yieldW rfl (wanted_yes (g := 11) (d' := 50) rfl rfl (h.at_ 11 rfl (pre_of hp 11 rfl))) 53 rfl (by change 53 < 65; decide) rfl _ rfl (by go_simp)
                  case o15 =>
                    intro f a u h hfi hp hq
                    exact h.yieldW rfl (wanted_yes (g := 14) (d' := 53) rfl rfl (h.at_ 14 rfl (pre_of hp 14 rfl))) 54 rfl (by change 54 < 65; decide) rfl _ rfl (run_of_sem rfl (by rw [(show a.eval (.tmp 1) = .pointer (some ⟨w.heap.size, 0, none⟩) from h.agree.eval (by decide))]; exact f_cm1 _ _))
                  case o16 =>
                    intro f a u h hfi hp hq
                    have hyu : Ext w3 u := ((Ext.refl w3).drew).trans h.ext
                    exact h.yieldW rfl (wanted_yes (g := 14) (d' := 53) rfl rfl (h.at_ 14 rfl (pre_of hp 14 rfl))) 55 rfl (by change 55 < 65; decide) rfl _ rfl (run_of_sem rfl (by rw [h.at_ 15 rfl (pre_of hp 15 rfl)]; exact ld_ids (cm_cells (HB1.out.ext hyu) HR.out).2.1))
                  case o17 =>
                    intro f a u h hfi hp hq
                    have q3 : a.tmps[3]?.getD undef = .int .i64 (k : Int) := h.agree.att (by decide)
                    exact h.yieldW rfl (wanted_yes (g := 14) (d' := 53) rfl rfl (h.at_ 14 rfl (pre_of hp 14 rfl))) 56 rfl (by change 56 < 65; decide) rfl _ rfl (by go_simp)
                  case o18 =>
                    intro f a u h hfi hp hq
                    have q56 := h.att 17 rfl (pre_of hp 17 rfl)
                    exact h.yieldW rfl (wanted_yes (g := 14) (d' := 53) rfl rfl (h.at_ 14 rfl (pre_of hp 14 rfl))) 57 rfl (by change 57 < 65; decide) rfl _ rfl (by go_simp)
                  case o19 =>
                    intro f a u h hfi hp hq
                    exact h.yieldW rfl (wanted_yes (g := 14) (d' := 53) rfl rfl (h.at_ 14 rfl (pre_of hp 14 rfl))) 58 rfl (by change 58 < 65; decide) rfl _ rfl (run_of_sem rfl (by rw [h.at_ 16 rfl (pre_of hp 16 rfl), h.at_ 18 rfl (pre_of hp 18 rfl)]; exact ix_id (i := j) rfl hjk))
                  case o20 =>
                    intro f a u h hfi hp hq
                    have hyu : Ext w3 u := ((Ext.refl w3).drew).trans h.ext
                    exact h.yieldW rfl (wanted_yes (g := 14) (d' := 53) rfl rfl (h.at_ 14 rfl (pre_of hp 14 rfl))) 59 rfl (by change 59 < 65; decide) rfl _ rfl (run_of_sem rfl (by rw [h.at_ 19 rfl (pre_of hp 19 rfl)]; exact ld_id HPJL.out (HRJ.out.ext hyu)))
                  case o21 =>
                    intro f a u h hfi hp hq
                    have hyu : Ext w3 u := ((Ext.refl w3).drew).trans h.ext
                    exact h.yieldW rfl (wanted_yes (g := 14) (d' := 53) rfl rfl (h.at_ 14 rfl (pre_of hp 14 rfl))) 60 rfl (by change 60 < 65; decide) rfl _ rfl (run_of_sem rfl (by rw [(show a.eval (.tmp 4) = .pointer (some ⟨g4, 0, none⟩) from h.agree.eval (by decide))]; exact run_load_blk (HB4.out.ext hyu) Tryd.underlying27 rfl (by rw [List.size_toArray, bv_len, HPL.out]; exact id_info)))
                  case o22 =>
                    intro f a u h hfi hp hq
                    have q59 := h.att 20 rfl (pre_of hp 20 rfl)
                    have q60 := h.att 21 rfl (pre_of hp 21 rfl)
                    have z := HEQ u
                    exact h.yieldW rfl (wanted_yes (g := 14) (d' := 53) rfl rfl (h.at_ 14 rfl (pre_of hp 14 rfl))) 61 rfl (by change 61 < 65; decide) rfl _ rfl (by go_simp)
                  case o23 =>
                    intro f a u h hfi hp hq
                    have q53 := h.att 14 rfl (pre_of hp 14 rfl)
                    have q61 := h.att 22 rfl (pre_of hp 22 rfl)
                    exact h.yieldW rfl (wanted_yes (g := 11) (d' := 50) rfl rfl (h.at_ 11 rfl (pre_of hp 11 rfl))) 62 rfl (by change 62 < 65; decide) rfl _ rfl (by go_simp)
                  case o24 =>
                    intro f a u h hfi hp hq
                    have q50 := h.att 11 rfl (pre_of hp 11 rfl)
                    have q62 := h.att 23 rfl (pre_of hp 23 rfl)
                    exact h.yieldW rfl (wanted_none rfl) 63 rfl (by change 63 < 65; decide) rfl _ rfl (by go_simp)
                · intro f a u h hall hfar
                  have hag := h.agree.out
                  have e63 := h.at_ 24 rfl (hall 24 (by decide))
                  have hye := ((Ext.refl w3).drew).trans h.ext
                  simp only [List.foldl_cons, List.foldl_nil, Act.put, List.setIfInBounds_toArray, List.set_cons_zero, List.set_cons_succ, e63] at hag
                  generalize a.eval (.tmp 39) = y39 at hag
                  generalize a.eval (.tmp 40) = y40 at hag
                  generalize a.eval (.tmp 41) = y41 at hag
                  generalize a.eval (.tmp 42) = y42 at hag
                  generalize a.eval (.tmp 43) = y43 at hag
                  generalize a.eval (.tmp 44) = y44 at hag
                  generalize a.eval (.tmp 45) = y45 at hag
                  generalize a.eval (.tmp 46) = y46 at hag
                  generalize a.eval (.tmp 47) = y47 at hag
                  generalize a.eval (.tmp 48) = y48 at hag
                  generalize a.eval (.tmp 49) = y49 at hag
                  generalize a.eval (.tmp 50) = y50 at hag
                  generalize a.eval (.tmp 51) = y51 at hag
                  generalize a.eval (.tmp 52) = y52 at hag
                  generalize a.eval (.tmp 53) = y53 at hag
                  generalize a.eval (.tmp 54) = y54 at hag
                  generalize a.eval (.tmp 55) = y55 at hag
                  generalize a.eval (.tmp 56) = y56 at hag
                  generalize a.eval (.tmp 57) = y57 at hag
                  generalize a.eval (.tmp 58) = y58 at hag
                  generalize a.eval (.tmp 59) = y59 at hag
                  generalize a.eval (.tmp 60) = y60 at hag
                  generalize a.eval (.tmp 61) = y61 at hag
                  generalize a.eval (.tmp 62) = y62 at hag
                  clear h hall hfar e63
                  subst hag
                  go_wp2
                  go_roundw
                  case rel => exact ⟨k + 1, by omega, by go_num, range_snoc hA.out HT.out, hxx.trans hye⟩
                  case measure => simp [intOf]; omega
            · have hi0 : ¬ (0 : Int) < (k : Int) := by omega
              have HT := Lib.hid (show paOk c k = true from HOK.out.trans (by rw [show (k == 0) = true from by rw [beq_iff_eq]; omega]; rfl))
              refine wp_region_ops (RInv [39, 40, 41, 42, 43, 44, 45, 46, 47, 48, 49, 50, 51, 52, 53, 54, 55, 56, 57, 58, 59, 60, 61, 62, 63] _ w3.drew [(0, 39, .agg (bv p).toArray), (1, 40, .bool true), (2, 41, .bool false), (3, 42, .bool false), (4, 43, .pointer (some ⟨g4, 0, none⟩)), (5, 44, .int .u8 ((idKind p).toNat : Int)), (6, 45, .pointer (some ⟨w.heap.size, 0, none⟩)), (7, 46, .pointer (some ⟨w.heap.size, 0, none⟩)), (8, 47, .int .u8 ((idKind c.root).toNat : Int)), (9, 48, .bool false), (10, 49, .bool false), (11, 50, .bool false), (12, 51, .int .i64 (k : Int)), (13, 52, .bool false), (14, 53, .bool false), (15, 54, undef), (16, 55, undef), (17, 56, undef), (18, 57, undef), (19, 58, undef), (20, 59, undef), (21, 60, undef), (22, 61, undef), (23, 62, .bool false), (24, 63, .bool false)] []) (by kernel_rfl) (by kernel_rfl) RInv.start ?_ ?_
              · refine ⟨?o0, ?o1, ?o2, ?o3, ?o4, ?o5, ?o6, ?o7, ?o8, ?o9, ?o10, ?o11, ?o12, ?o13, ?o14, ?o15, ?o16, ?o17, ?o18, ?o19, ?o20, ?o21, ?o22, ?o23, ?o24, trivial⟩
                case o0 =>
                  intro f a u h hfi hp hq
                  have hyu : Ext w3 u := ((Ext.refl w3).drew).trans h.ext
                  exact h.yieldW rfl (wanted_none rfl) 39 rfl (by change 39 < 65; decide) rfl _ rfl (run_of_sem rfl (by rw [(show a.eval (.tmp 4) = .pointer (some ⟨g4, 0, none⟩) from h.agree.eval (by decide))]; exact run_load_blk (HB4.out.ext hyu) Tryd.underlying27 rfl (by rw [List.size_toArray, bv_len, HPL.out]; exact id_info)))
                case o1 =>
                  intro f a u h hfi hp hq
                  exact h.callW rfl (wanted_none rfl) 40 rfl (by change 40 < 65; decide) rfl _ rfl 93 #[.tmp 39] #[27] _ rfl (by kernel_rfl) (by rw [arr1, h.at_ 0 rfl (pre_of hp 0 rfl)]) (HGP u)
                case o2 =>
                  intro f a u h hfi hp hq
                  have q40 := h.att 1 rfl (pre_of hp 1 rfl)
                  exact h.yieldW rfl (wanted_none rfl) 41 rfl (by change 41 < 65; decide) rfl _ rfl (by go_simp)
                case o3 =>
                  intro f a u h hfi hp hq
                  have q41 := h.att 2 rfl (pre_of hp 2 rfl)
                  exact h.yieldW rfl (wanted_none rfl) 42 rfl (by change 42 < 65; decide) rfl _ rfl (by go_simp)
                case o4 =>
                  intro f a u h hfi hp hq
                  exact h.yieldW rfl (wanted_yes (g := 3) (d' := 42) rfl rfl (h.at_ 3 rfl (pre_of hp 3 rfl))) 43 rfl (by change 43 < 65; decide) rfl _ rfl (run_of_sem rfl (by rw [(show a.eval (.tmp 4) = .pointer (some ⟨g4, 0, none⟩) from h.agree.eval (by decide))]; exact f_id0 _ _))
                case o5 =>
                  intro f a u h hfi hp hq
                  have hyu : Ext w3 u := ((Ext.refl w3).drew).trans h.ext
                  exact h.yieldW rfl (wanted_yes (g := 3) (d' := 42) rfl rfl (h.at_ 3 rfl (pre_of hp 3 rfl))) 44 rfl (by change 44 < 65; decide) rfl _ rfl (run_of_sem rfl (by rw [h.at_ 4 rfl (pre_of hp 4 rfl)]; exact ld_u8 (Cells.head (id_box (HB4.out.ext hyu)) (by rw [HPL.out]; decide))))
                case o6 =>
                  intro f a u h hfi hp hq
                  exact h.yieldW rfl (wanted_yes (g := 3) (d' := 42) rfl rfl (h.at_ 3 rfl (pre_of hp 3 rfl))) 45 rfl (by change 45 < 65; decide) rfl _ rfl (run_of_sem rfl (by rw [(show a.eval (.tmp 1) = .pointer (some ⟨w.heap.size, 0, none⟩) from h.agree.eval (by decide))]; exact f_cm0 _ _))
                case o7 =>
                  intro f a u h hfi hp hq
                  exact h.yieldW rfl (wanted_yes (g := 3) (d' := 42) rfl rfl (h.at_ 3 rfl (pre_of hp 3 rfl))) 46 rfl (by change 46 < 65; decide) rfl _ rfl (run_of_sem rfl (by rw [h.at_ 6 rfl (pre_of hp 6 rfl)]; exact f_id0 _ _))
                case o8 =>
                  intro f a u h hfi hp hq
                  have hyu : Ext w3 u := ((Ext.refl w3).drew).trans h.ext
                  exact h.yieldW rfl (wanted_yes (g := 3) (d' := 42) rfl rfl (h.at_ 3 rfl (pre_of hp 3 rfl))) 47 rfl (by change 47 < 65; decide) rfl _ rfl (run_of_sem rfl (by rw [h.at_ 7 rfl (pre_of hp 7 rfl)]; exact ld_u8 (Cells.head (cm_cells (HB1.out.ext hyu) HR.out).1 (by rw [HR.out]; decide))))
                case o9 =>
                  intro f a u h hfi hp hq
                  have q44 := h.att 5 rfl (pre_of hp 5 rfl)
                  have q47 := h.att 8 rfl (pre_of hp 8 rfl)
                  exact h.yieldW rfl (wanted_yes (g := 3) (d' := 42) rfl rfl (h.at_ 3 rfl (pre_of hp 3 rfl))) 48 rfl (by change 48 < 65; decide) rfl _ rfl (by go_simp)
                case o10 =>
                  intro f a u h hfi hp hq
                  have q42 := h.att 3 rfl (pre_of hp 3 rfl)
                  have q48 := h.att 9 rfl (pre_of hp 9 rfl)
                  exact h.yieldW rfl (wanted_none rfl) 49 rfl (by change 49 < 65; decide) rfl _ rfl (by go_simp)
                case o11 =>
                  intro f a u h hfi hp hq
                  have q49 := h.att 10 rfl (pre_of hp 10 rfl)
                  exact h.yieldW rfl (wanted_none rfl) 50 rfl (by change 50 < 65; decide) rfl _ rfl (by go_simp)
                case o12 =>
                  intro f a u h hfi hp hq
                  have q3 : a.tmps[3]?.getD undef = .int .i64 (k : Int) := h.agree.att (by decide)
                  exact h.yieldW rfl (wanted_yes (g := 11) (d' := 50) rfl rfl (h.at_ 11 rfl (pre_of hp 11 rfl))) 51 rfl (by change 51 < 65; decide) rfl _ rfl (by go_simp)
                case o13 =>
                  intro f a u h hfi hp hq
                  have q51 := h.att 12 rfl (pre_of hp 12 rfl)
                  exact h.yieldW rfl (wanted_yes (g := 11) (d' := 50) rfl rfl (h.at_ 11 rfl (pre_of hp 11 rfl))) 52 rfl (by change 52 < 65; decide) rfl _ rfl (by go_simp)
                case o14 =>
                  intro f a u h hfi hp hq
                  have q52 := h.att 13 rfl (pre_of hp 13 rfl)
                  exact h.yieldW rfl (wanted_yes (g := 11) (d' := 50) rfl rfl (h.at_ 11 rfl (pre_of hp 11 rfl))) 53 rfl (by change 53 < 65; decide) rfl _ rfl (by go_simp)
                case o15 =>
                  intro f a u h hfi hp hq
                  exact h.skip rfl (wanted_not (g := 14) (d' := 53) rfl rfl (h.at_ 14 rfl (pre_of hp 14 rfl)) rfl) 54 rfl (by change 54 < 65; decide) rfl rfl
                case o16 =>
                  intro f a u h hfi hp hq
                  exact h.skip rfl (wanted_not (g := 14) (d' := 53) rfl rfl (h.at_ 14 rfl (pre_of hp 14 rfl)) rfl) 55 rfl (by change 55 < 65; decide) rfl rfl
                case o17 =>
                  intro f a u h hfi hp hq
                  exact h.skip rfl (wanted_not (g := 14) (d' := 53) rfl rfl (h.at_ 14 rfl (pre_of hp 14 rfl)) rfl) 56 rfl (by change 56 < 65; decide) rfl rfl
                case o18 =>
                  intro f a u h hfi hp hq
                  exact h.skip rfl (wanted_not (g := 14) (d' := 53) rfl rfl (h.at_ 14 rfl (pre_of hp 14 rfl)) rfl) 57 rfl (by change 57 < 65; decide) rfl rfl
                case o19 =>
                  intro f a u h hfi hp hq
                  exact h.skip rfl (wanted_not (g := 14) (d' := 53) rfl rfl (h.at_ 14 rfl (pre_of hp 14 rfl)) rfl) 58 rfl (by change 58 < 65; decide) rfl rfl
                case o20 =>
                  intro f a u h hfi hp hq
                  exact h.skip rfl (wanted_not (g := 14) (d' := 53) rfl rfl (h.at_ 14 rfl (pre_of hp 14 rfl)) rfl) 59 rfl (by change 59 < 65; decide) rfl rfl
                case o21 =>
                  intro f a u h hfi hp hq
                  exact h.skip rfl (wanted_not (g := 14) (d' := 53) rfl rfl (h.at_ 14 rfl (pre_of hp 14 rfl)) rfl) 60 rfl (by change 60 < 65; decide) rfl rfl
                case o22 =>
                  intro f a u h hfi hp hq
                  exact h.skip rfl (wanted_not (g := 14) (d' := 53) rfl rfl (h.at_ 14 rfl (pre_of hp 14 rfl)) rfl) 61 rfl (by change 61 < 65; decide) rfl rfl
                case o23 =>
                  intro f a u h hfi hp hq
                  have q53 := h.att 14 rfl (pre_of hp 14 rfl)
                  have q61 := h.att 22 rfl (pre_of hp 22 rfl)
                  exact h.yieldW rfl (wanted_yes (g := 11) (d' := 50) rfl rfl (h.at_ 11 rfl (pre_of hp 11 rfl))) 62 rfl (by change 62 < 65; decide) rfl _ rfl (by go_simp)
                case o24 =>
                  intro f a u h hfi hp hq
                  have q50 := h.att 11 rfl (pre_of hp 11 rfl)
                  have q62 := h.att 23 rfl (pre_of hp 23 rfl)
                  exact h.yieldW rfl (wanted_none rfl) 63 rfl (by change 63 < 65; decide) rfl _ rfl (by go_simp)
              · intro f a u h hall hfar
                have hag := h.agree.out
                have e63 := h.at_ 24 rfl (hall 24 (by decide))
                have hye := ((Ext.refl w3).drew).trans h.ext
                simp only [List.foldl_cons, List.foldl_nil, Act.put, List.setIfInBounds_toArray, List.set_cons_zero, List.set_cons_succ, e63] at hag
                generalize a.eval (.tmp 39) = y39 at hag
                generalize a.eval (.tmp 40) = y40 at hag
                generalize a.eval (.tmp 41) = y41 at hag
                generalize a.eval (.tmp 42) = y42 at hag
                generalize a.eval (.tmp 43) = y43 at hag
                generalize a.eval (.tmp 44) = y44 at hag
                generalize a.eval (.tmp 45) = y45 at hag
                generalize a.eval (.tmp 46) = y46 at hag
                generalize a.eval (.tmp 47) = y47 at hag
                generalize a.eval (.tmp 48) = y48 at hag
                generalize a.eval (.tmp 49) = y49 at hag
                generalize a.eval (.tmp 50) = y50 at hag
                generalize a.eval (.tmp 51) = y51 at hag
                generalize a.eval (.tmp 52) = y52 at hag
                generalize a.eval (.tmp 53) = y53 at hag
                generalize a.eval (.tmp 54) = y54 at hag
                generalize a.eval (.tmp 55) = y55 at hag
                generalize a.eval (.tmp 56) = y56 at hag
                generalize a.eval (.tmp 57) = y57 at hag
                generalize a.eval (.tmp 58) = y58 at hag
                generalize a.eval (.tmp 59) = y59 at hag
                generalize a.eval (.tmp 60) = y60 at hag
                generalize a.eval (.tmp 61) = y61 at hag
                generalize a.eval (.tmp 62) = y62 at hag
                clear h hall hfar e63
                subst hag
                go_wp2
                go_roundw
                case rel => exact ⟨k + 1, by omega, by go_num, range_snoc hA.out HT.out, hxx.trans hye⟩
                case measure => simp [intOf]; omega
      · obtain rfl : k = Q := by omega
        have HT := Lib.hid (show ((List.range c.parents.length).all (paOk c)) = true from by rw [Hh.out.hq]; exact hA.out)
        go_wp2
        go_ret
        exact ⟨ret_bool HT.out.symm, hye.trans hx⟩
/-- GoodCommit. -/
theorem goodCommit_calls (c : Cm) (qa : Option Addr) (Q qc : Nat) (w : World) (h : CmAt w c qa Q qc) :
    Calls Tryd.prog 66 #[cma c qa Q qc] w fun e w' => e = .returned (.bool c.good) ∧ Ext w w' := by
  have hQ := h.hq
  by_cases h1 : (2 : Int) < (Q : Int)
  · have hg : c.good = false := by unfold Cm.good Cm.shape; rw [hQ, decide_eq_false (show ¬ Q ≤ 2 by omega)]; rfl
    rw [hg]; exact goodCommit_1 c qa Q qc w h h1
  by_cases h2 : (32 : Int) < (c.note.size : Int)
  · have hg : c.good = false := by unfold Cm.good Cm.shape; rw [decide_eq_false (show ¬ c.note.size ≤ 32 by omega)]; simp
    rw [hg]; exact goodCommit_2 c qa Q qc w h h1 h2
  by_cases h3 : c.num < 1
  · have hg : c.good = false := by unfold Cm.good Cm.shape; rw [decide_eq_false (show ¬ 1 ≤ c.num by omega)]; simp
    rw [hg]; exact goodCommit_3 c qa Q qc w h h1 h2 h3
  by_cases h4 : 1024 < c.num
  · have hg : c.good = false := by unfold Cm.good Cm.shape; rw [decide_eq_false (show ¬ c.num ≤ 1024 by omega)]; simp
    rw [hg]; exact goodCommit_4 c qa Q qc w h h1 h2 h3 h4
  cases hr : idGood c.root with
  | false =>
    have hg : c.good = false := by unfold Cm.good Cm.shape; rw [hr]; simp
    rw [hg]; exact goodCommit_5 c qa Q qc w h h1 h2 h3 h4 hr
  | true =>
    have hg : c.good = ((List.range c.parents.length).all (paOk c)) := by
      unfold Cm.good Cm.shape
      rw [hQ, hr, decide_eq_true (show Q ≤ 2 by omega), decide_eq_true (show c.note.size ≤ 32 by omega), decide_eq_true (show 1 ≤ c.num by omega), decide_eq_true (show c.num ≤ 1024 by omega)]
      simp
    rw [hg]; exact goodCommit_ok c qa Q qc w h h1 h2 h3 h4 hr
end Go.Proofs.YtcnhbodemabbdaaDoor
/- The walk of object.PutCommit. -/
namespace Go.Proofs.YtcnhbodemabbdaaDoor
open Go.RowKit
set_option linter.unusedVariables false

theorem cm_parts {c : Cm} (h : c.good = true) : c.parents.length ≤ 2 ∧ c.note.size ≤ 32 ∧ 1 ≤ c.num ∧ c.num ≤ 1024 := by
  unfold Cm.good Cm.shape at h
  simp only [Bool.and_eq_true, decide_eq_true_eq] at h
  exact ⟨h.1.1, h.1.2.1, h.1.2.2.1, h.1.2.2.2.1⟩
/-- The bytes up to the first k parents. -/
def cmsB (c : Cm) (k : Nat) : List UInt8 := [3, UInt8.ofNat c.parents.length] ++ idText c.root ++ (c.parents.take k).flatMap idText
theorem cmsB_succ (c : Cm) {k : Nat} (h : k < c.parents.length) : cmsB c (k + 1) = cmsB c k ++ idText c.parents[k] := by
  unfold cmsB
  rw [List.take_succ_eq_append_getElem h, List.flatMap_append]
  simp
theorem cmsB_len {c : Cm} (hr : c.root.length = 33) (hl : ∀ p ∈ c.parents, p.length = 33) : ∀ k ≤ c.parents.length, (cmsB c k).length ≤ 50 + 50 * k := by
  intro k
  induction k with
  | zero =>
    intro _
    have := idText_len hr
    simp only [cmsB, List.take_zero, List.flatMap_nil, List.append_nil, List.length_append, List.length_cons, List.length_nil]
    omega
  | succ k ih =>
    intro hk
    have h2 := ih (by omega)
    have h3 := idText_len (hl _ (List.getElem_mem hk))
    rw [cmsB_succ c hk, List.length_append]
    omega
theorem cm_bytes (c : Cm) : c.bytes = cmsB c c.parents.length ++ textB (blo c.note) ++ intB c.num := by
  unfold Cm.bytes cmsB
  rw [List.take_length]
theorem ln_ids {w : World} {a : Option Addr} {n c : Nat} (h : n ≤ 140737488351232) : IntKind.i64.wrap (n : Int) = (n : Int) := by
  simp only [IntKind.wrap, IntKind.bits, IntKind.signed]; simp; omega

end Go.Proofs.YtcnhbodemabbdaaDoor
/- Layer 15 in plain Lean: what bytes are read as; they are read as a tree (a commit) just if they are its bytes. -/
namespace Go.Proofs.YtcnhbodemabbdaaDoor
set_option linter.unusedVariables false

theorem uint_inv {b : List UInt8} {m : Nat} {r : PR} (h : PR.uint ⟨b, false⟩ = (m, r)) (hg : r.bad = false) : b = uintB m ++ r.b := by
  unfold PR.uint at h
  cases hu : rUF 0 0 b with
  | none => simp only [hu] at h; cases h; cases hg
  | some q =>
    obtain ⟨x, t⟩ := q
    simp only [hu] at h
    cases h
    obtain ⟨n, hm, hb, _, _⟩ := rUF_back b 0 0 _ _ (by omega) hu
    simp only [Nat.pow_zero, Nat.mul_one, Nat.zero_add] at hm
    rw [hm]
    exact hb
theorem text_inv {b x : List UInt8} {most : Int} {r : PR} (h : PR.text ⟨b, false⟩ most = (x, r)) (hg : r.bad = false) : b = textB x ++ r.b := by
  unfold PR.text at h
  obtain ⟨m, q, hu⟩ : ∃ m q, PR.uint ⟨b, false⟩ = (m, q) := ⟨_, _, rfl⟩
  rw [hu] at h
  simp only at h
  split at h
  · cases h; cases hg
  · unfold PR.take at h
    split at h
    · cases h; cases hg
    · rename_i h1
      simp only [not_or, Int.not_lt, Bool.not_eq_true] at h1
      have hb := uint_inv hu h1.1
      have hl : m ≤ q.b.length := by omega
      cases h
      simp only [Int.toNat_natCast]
      rw [textB, List.length_take, Nat.min_eq_left hl, hb, List.append_assoc, List.take_append_drop]
theorem uint_fail : PR.fail.uint = (0, PR.fail) := rfl
theorem text_fail (m : Int) : PR.fail.text m = ([], PR.fail) := by
  unfold PR.text
  split
  · rfl
  · unfold PR.take
    rw [if_pos (.inl rfl)]
theorem blo_bstr (l : List UInt8) : blo (bstr l) = l := bstr_data l
theorem bstr_blo (s : ByteArray) : bstr (blo s) = s := by
  cases s
  simp [bstr, blo]
theorem uint_rest' (r : PR) : r.uint.2.b.length ≤ r.b.length := by
  have hr : ∀ (b : List UInt8) (i acc n : Nat) (q : List UInt8), rUF i acc b = some (n, q) → q.length ≤ b.length := by
    intro b
    induction b with
    | nil => intro i acc n q h; simp [rUF] at h
    | cons c b ih =>
      intro i acc n q h
      simp only [rUF] at h
      split at h
      · cases h
      · split at h
        · cases h; simp
        · have := ih _ _ _ _ h
          simp only [List.length_cons]
          omega
  unfold PR.uint
  split
  · rename_i n q hq
    exact hr _ _ _ _ _ hq
  · simp [PR.fail]
theorem take_rest' (r : PR) (n : Int) : (r.take n).2.b.length ≤ r.b.length ∧ (r.take n).1.length ≤ r.b.length := by
  unfold PR.take
  split
  · simp [PR.fail]
  · simp only [List.length_drop, List.length_take]; omega
theorem text_rest' (r : PR) (m : Int) : (r.text m).2.b.length ≤ r.b.length ∧ (r.text m).1.length ≤ r.b.length := by
  unfold PR.text
  split
  · simp [PR.fail]
  · have h1 := take_rest' r.uint.2 r.uint.1
    have h2 := uint_rest' r
    omega

/-- A name that stands in bytes. -/
def pid (r : PR) : List UInt8 × PR :=
  match r.b with
  | [] => (idNone, PR.fail)
  | k :: b => if idN k = 0 ∨ b.length < idN k then (idNone, PR.fail) else (idPad (k :: b.take (idN k)), ⟨b.drop (idN k), r.bad⟩)
theorem pid_fail : pid PR.fail = (idNone, PR.fail) := rfl
theorem pid_len (r : PR) : (pid r).1.length = 33 := by
  unfold pid
  split
  · exact idNone_len
  · rename_i k b _
    split
    · exact idNone_len
    · rename_i h
      refine idPad_len ?_
      have := idN_le k
      simp only [List.length_cons, List.length_take]
      omega
theorem pid_rest (r : PR) : (pid r).2.b.length ≤ r.b.length := by
  unfold pid
  split
  · simp [PR.fail]
  · rename_i k b hb
    split
    · simp [PR.fail]
    · rw [hb]; simp only [List.length_drop, List.length_cons]; omega
theorem PR.Ok.pid {r : PR} (h : r.Ok) : (pid r).2.Ok := by
  unfold Go.Proofs.YtcnhbodemabbdaaDoor.pid
  split
  · exact PR.ok_fail
  · rename_i k b hb
    split
    · exact PR.ok_fail
    · intro hbad
      have := h hbad
      rw [hb] at this
      cases this
theorem pid_inv {b x : List UInt8} {r : PR} (h : pid ⟨b, false⟩ = (x, r)) (hg : r.bad = false) : b = idText x ++ r.b ∧ idGood x = true := by
  unfold pid at h
  cases b with
  | nil => simp only at h; cases h; cases hg
  | cons k b =>
    simp only at h
    split at h
    · cases h; cases hg
    · rename_i hn
      cases h
      have hlt : (b.take (idN k)).length = idN k := by rw [List.length_take]; omega
      have hc : idCan (k :: b.take (idN k)) = true := by
        unfold idCan
        have hk : idKind (k :: b.take (idN k)) = k := rfl
        rw [hk, List.length_cons, hlt]
        simp only [Bool.and_eq_true, decide_eq_true_eq]
        omega
      obtain ⟨h1, h2⟩ := idCan_pad hc
      refine ⟨?_, h1⟩
      rw [h2, List.cons_append, List.take_append_drop]
theorem pid_of {x : List UInt8} (hl : x.length = 33) (hg : idGood x = true) (t : List UInt8) : pid ⟨idText x ++ t, false⟩ = (x, ⟨t, false⟩) := by
  have hc := idText_can hl hg
  obtain ⟨h1, h2⟩ := idCan_kind hc
  have hp := idPad_text hl hg
  obtain ⟨k, b, hb⟩ : ∃ k b, idText x = k :: b := by
    cases hx : idText x with
    | nil => rw [hx] at h2; simp at h2; omega
    | cons k b => exact ⟨k, b, rfl⟩
  rw [hb] at h1 h2 hp
  have hk : idKind (k :: b) = k := rfl
  rw [hk] at h1 h2
  rw [List.length_cons] at h2
  rw [hb]
  unfold pid
  simp only [List.cons_append]
  rw [if_neg (by simp only [List.length_append]; omega), List.take_append_of_le_length (by omega), List.take_of_length_le (by omega), hp, List.drop_append_of_le_length (by omega), List.drop_of_length_le (by omega), List.nil_append]

/-- What has been read of a tree. -/
structure TSt where
  prs : List Pr
  kds : List Kd
  r : PR
def tstep (leaf : Bool) (s : TSt) : TSt :=
  if leaf then ⟨s.prs ++ [(bstr (s.r.text 16).1, bstr ((s.r.text 16).2.text 16).1)], s.kds, ((s.r.text 16).2.text 16).2⟩
  else ⟨s.prs, s.kds ++ [(bstr (s.r.text 16).1, (pid (s.r.text 16).2).1)], (pid (s.r.text 16).2).2⟩
def tsteps (leaf : Bool) (r : PR) : Nat → TSt
  | 0 => ⟨[], [], r⟩
  | k + 1 => tstep leaf (tsteps leaf r k)
theorem tstep_ok {leaf : Bool} {s : TSt} (h : s.r.Ok) : (tstep leaf s).r.Ok := by
  cases leaf
  · exact (h.text _).pid
  · exact (h.text _).text _
theorem tsteps_ok {leaf : Bool} {r : PR} (h : r.Ok) : ∀ k, (tsteps leaf r k).r.Ok
  | 0 => h
  | k + 1 => tstep_ok (tsteps_ok h k)
theorem tstep_bad {leaf : Bool} {s : TSt} (h : s.r = PR.fail) : (tstep leaf s).r = PR.fail := by
  cases leaf
  · show (pid (s.r.text 16).2).2 = _
    rw [h, text_fail, pid_fail]
  · show ((s.r.text 16).2.text 16).2 = _
    rw [h, text_fail, text_fail]
theorem tsteps_bad {leaf : Bool} {r : PR} (h : r.Ok) {j : Nat} (hb : (tsteps leaf r j).r.bad = true) : ∀ k, j ≤ k → (tsteps leaf r k).r = PR.fail := by
  intro k
  induction k with
  | zero =>
    intro hj
    have e : j = 0 := by omega
    subst e
    exact (tsteps_ok h 0).eq hb
  | succ k ih =>
    intro hj
    by_cases e : j = k + 1
    · subst e; exact (tsteps_ok h _).eq hb
    · exact tstep_bad (ih (by omega))
theorem tsteps_len (leaf : Bool) (r : PR) : ∀ k, (tsteps leaf r k).prs.length = (if leaf then k else 0) ∧ (tsteps leaf r k).kds.length = (if leaf then 0 else k) := by
  intro k
  induction k with
  | zero => cases leaf <;> exact ⟨rfl, rfl⟩
  | succ k ih =>
    obtain ⟨h1, h2⟩ := ih
    cases leaf
    · refine ⟨h1, ?_⟩
      show ((tsteps false r k).kds ++ [_]).length = k + 1
      rw [List.length_append, h2]; rfl
    · refine ⟨?_, h2⟩
      show ((tsteps true r k).prs ++ [_]).length = k + 1
      rw [List.length_append, h1]; rfl
theorem tsteps_sizes (leaf : Bool) (r : PR) (M : Nat) (hr : r.b.length ≤ M) : ∀ k, (∀ p ∈ (tsteps leaf r k).prs, p.1.size ≤ M ∧ p.2.size ≤ M) ∧ (∀ p ∈ (tsteps leaf r k).kds, p.1.size ≤ M ∧ p.2.length = 33) ∧ (tsteps leaf r k).r.b.length ≤ M := by
  intro k
  induction k with
  | zero => exact ⟨fun p h => (by cases h), fun p h => (by cases h), hr⟩
  | succ k ih =>
    obtain ⟨h1, h2, h3⟩ := ih
    have t1 := text_rest' (tsteps leaf r k).r 16
    cases leaf
    · have t2 := pid_rest ((tsteps false r k).r.text 16).2
      refine ⟨h1, fun p hp => ?_, by show (pid ((tsteps false r k).r.text 16).2).2.b.length ≤ M; omega⟩
      have hp : p ∈ (tsteps false r k).kds ++ [_] := hp
      rcases List.mem_append.1 hp with hp | hp
      · exact h2 p hp
      · rw [List.mem_singleton] at hp; subst hp; exact ⟨by rw [bstr_size]; omega, pid_len _⟩
    · have t2 := text_rest' ((tsteps true r k).r.text 16).2 16
      refine ⟨fun p hp => ?_, h2, by show (((tsteps true r k).r.text 16).2.text 16).2.b.length ≤ M; omega⟩
      have hp : p ∈ (tsteps true r k).prs ++ [_] := hp
      rcases List.mem_append.1 hp with hp | hp
      · exact h1 p hp
      · rw [List.mem_singleton] at hp; subst hp; exact ⟨by rw [bstr_size]; omega, by rw [bstr_size]; omega⟩
theorem tsteps_inv (leaf : Bool) (b : List UInt8) : ∀ k, (tsteps leaf ⟨b, false⟩ k).r.bad = false →
    b = (if leaf then (tsteps leaf ⟨b, false⟩ k).prs.flatMap prB else (tsteps leaf ⟨b, false⟩ k).kds.flatMap kdB) ++ (tsteps leaf ⟨b, false⟩ k).r.b := by
  have hok : (PR.mk b false).Ok := fun h => by cases h
  intro k
  induction k with
  | zero => intro _; cases leaf <;> rfl
  | succ k ih =>
    intro hb
    have hgk : (tsteps leaf ⟨b, false⟩ k).r.bad = false := by
      cases h : (tsteps leaf ⟨b, false⟩ k).r.bad with
      | false => rfl
      | true => rw [tsteps_bad hok h (k + 1) (by omega)] at hb; cases hb
    have e := ih hgk
    obtain ⟨s, hs⟩ : ∃ s, s = tsteps leaf ⟨b, false⟩ k := ⟨_, rfl⟩
    have hstep : tsteps leaf ⟨b, false⟩ (k + 1) = tstep leaf s := by rw [hs]; rfl
    have hsok : s.r.Ok := by rw [hs]; exact tsteps_ok hok k
    rw [hstep] at hb ⊢
    rw [← hs] at e hgk
    clear hs hstep ih
    obtain ⟨prs, kds, ⟨rb, bad⟩⟩ := s
    simp only at hgk e hsok
    subst hgk
    obtain ⟨x, r1, h1⟩ : ∃ x r1, PR.text ⟨rb, false⟩ 16 = (x, r1) := ⟨_, _, rfl⟩
    have hr1 : r1.Ok := by have := hsok.text 16; rw [h1] at this; exact this
    cases leaf with
    | false =>
      obtain ⟨y, r2, h2⟩ : ∃ y r2, pid r1 = (y, r2) := ⟨_, _, rfl⟩
      have hr2 : (tstep false ⟨prs, kds, ⟨rb, false⟩⟩) = ⟨prs, kds ++ [(bstr x, y)], r2⟩ := by simp only [tstep, h1, h2, Bool.false_eq_true, if_false]
      rw [hr2] at hb ⊢
      simp only at hb ⊢
      have hb1 : r1.bad = false := by
        cases h : r1.bad with
        | false => rfl
        | true => rw [hr1.eq h, pid_fail] at h2; cases h2; cases hb
      have e1 := text_inv h1 hb1
      obtain ⟨r1b, r1bad⟩ := r1
      simp only at hb1 e1
      subst hb1
      obtain ⟨e2, hgd⟩ := pid_inv h2 hb
      rw [if_neg (by decide)] at e ⊢
      rw [List.flatMap_append, e, e1, e2]
      simp [kdB, blo_bstr]
    | true =>
      obtain ⟨y, r2, h2⟩ : ∃ y r2, PR.text r1 16 = (y, r2) := ⟨_, _, rfl⟩
      have hr2 : (tstep true ⟨prs, kds, ⟨rb, false⟩⟩) = ⟨prs ++ [(bstr x, bstr y)], kds, r2⟩ := by simp only [tstep, h1, h2, if_true]
      rw [hr2] at hb ⊢
      simp only at hb ⊢
      have hb1 : r1.bad = false := by
        cases h : r1.bad with
        | false => rfl
        | true => rw [hr1.eq h, text_fail] at h2; cases h2; cases hb
      have e1 := text_inv h1 hb1
      obtain ⟨r1b, r1bad⟩ := r1
      simp only at hb1 e1
      subst hb1
      have e2 := text_inv h2 hb
      simp only [if_true] at e ⊢
      rw [List.flatMap_append, e, e1, e2]
      simp [prB, blo_bstr]
theorem text16 {s : ByteArray} (h : s.size ≤ 16) (t : List UInt8) : PR.text ⟨textB (blo s) ++ t, false⟩ 16 = (blo s, ⟨t, false⟩) := PR.text_of _ _ _ (by rw [blo_len]; omega) (by rw [blo_len]; omega)
theorem tsteps_prs (ps : List Pr) (hs : ∀ p ∈ ps, p.1.size ≤ 16 ∧ p.2.size ≤ 16) (t : List UInt8) : ∀ k ≤ ps.length, tsteps true ⟨ps.flatMap prB ++ t, false⟩ k = ⟨ps.take k, [], ⟨(ps.drop k).flatMap prB ++ t, false⟩⟩ := by
  intro k
  induction k with
  | zero => intro _; rfl
  | succ k ih =>
    intro hk
    have hp := hs _ (List.getElem_mem (show k < ps.length by omega))
    show tstep true (tsteps true _ k) = _
    rw [ih (by omega), List.drop_eq_getElem_cons (show k < ps.length by omega), List.flatMap_cons]
    simp only [tstep, if_true]
    rw [prB, List.append_assoc, List.append_assoc, text16 hp.1]
    simp only
    rw [text16 hp.2]
    simp only [bstr_blo]
    rw [List.take_succ_eq_append_getElem (show k < ps.length by omega)]
theorem tsteps_kds (ks : List Kd) (hs : ∀ p ∈ ks, p.1.size ≤ 16 ∧ p.2.length = 33 ∧ idGood p.2 = true) (t : List UInt8) : ∀ k ≤ ks.length, tsteps false ⟨ks.flatMap kdB ++ t, false⟩ k = ⟨[], ks.take k, ⟨(ks.drop k).flatMap kdB ++ t, false⟩⟩ := by
  intro k
  induction k with
  | zero => intro _; rfl
  | succ k ih =>
    intro hk
    obtain ⟨h1, h2, h3⟩ := hs _ (List.getElem_mem (show k < ks.length by omega))
    show tstep false (tsteps false _ k) = _
    rw [ih (by omega), List.drop_eq_getElem_cons (show k < ks.length by omega), List.flatMap_cons]
    simp only [tstep, Bool.false_eq_true, if_false]
    rw [kdB, List.append_assoc, List.append_assoc, text16 h1]
    simp only
    rw [pid_of h2 h3]
    simp only [bstr_blo]
    rw [List.take_succ_eq_append_getElem (show k < ks.length by omega)]

def tOk (h : UInt8) (s : TSt) : Bool := (!s.r.bad && s.r.b.length == 0) && (Tr.good ⟨s.prs, s.kds⟩ && (!(h == 2 && s.kds.length == 0) && (h == 1 || h == 2)))
def decTB (h n : UInt8) (b : List UInt8) : Option Tr :=
  if tOk h (tsteps (h == 1) ⟨b, false⟩ n.toNat) then some ⟨(tsteps (h == 1) ⟨b, false⟩ n.toNat).prs, (tsteps (h == 1) ⟨b, false⟩ n.toNat).kds⟩ else none
/-- The tree of bytes. -/
def decT : List UInt8 → Option Tr
  | h :: n :: b => decTB h n b
  | _ => none
/-- All the names are as long as names are. -/
def Tr.ids (t : Tr) : Prop := ∀ k ∈ t.kids, k.2.length = 33
theorem decT_good {bs : List UInt8} {t : Tr} (h : decT bs = some t) : t.good = true ∧ t.ids ∧ t.bytes = bs := by
  match bs, h with
  | hd :: n :: b, h =>
    have h : decTB hd n b = some t := h
    unfold decTB at h
    split at h
    · rename_i hok
      obtain ⟨s, hs⟩ : ∃ s, s = tsteps (hd == 1) ⟨b, false⟩ n.toNat := ⟨_, rfl⟩
      have hsz := tsteps_sizes (hd == 1) ⟨b, false⟩ b.length (Nat.le_refl _) n.toNat
      have hln := tsteps_len (hd == 1) ⟨b, false⟩ n.toNat
      have hin := tsteps_inv (hd == 1) b n.toNat
      rw [← hs] at h hok hsz hln hin
      cases h
      unfold tOk at hok
      simp only [Bool.and_eq_true, Bool.not_eq_true', beq_iff_eq, Bool.or_eq_true, Bool.and_eq_false_iff, beq_eq_false_iff_ne] at hok
      obtain ⟨⟨h1, h2⟩, h3, h4, h5⟩ := hok
      have e := hin h1
      rw [List.eq_nil_of_length_eq_zero h2, List.append_nil] at e
      refine ⟨h3, fun k hk => (hsz.2.1 k hk).2, ?_⟩
      have hn : UInt8.ofNat n.toNat = n := UInt8.ofNat_toNat
      rcases h5 with rfl | rfl
      · simp only [beq_self_eq_true, if_true] at hln e
        unfold Tr.bytes
        rw [if_pos hln.2, hln.1, hn, ← e]
        rfl
      · have hf : ((2 : UInt8) == 1) = false := rfl
        simp only [hf, Bool.false_eq_true, if_false] at hln e
        unfold Tr.bytes
        rw [if_neg (by rcases h4 with h4 | h4; exact absurd rfl h4; exact h4), hln.2, hn, ← e]
        rfl
    · cases h
theorem decT_of {t : Tr} (hg : t.good = true) (hl : t.ids) : decT t.bytes = some t := by
  obtain ⟨hp4, hk3, h0, h1, _, _⟩ := tr_parts hg
  have hz : ∀ n : Nat, n ≤ 4 → (UInt8.ofNat n).toNat = n := fun n hn => ofNat_small (by omega)
  by_cases hk : t.kids.length = 0
  · have hb : t.bytes = 1 :: UInt8.ofNat t.pairs.length :: t.pairs.flatMap prB := by unfold Tr.bytes; rw [if_pos hk]; rfl
    have hs : tsteps true ⟨t.pairs.flatMap prB, false⟩ t.pairs.length = ⟨t.pairs, [], ⟨[], false⟩⟩ := by
      have := tsteps_prs t.pairs (fun p hp => by obtain ⟨i, hi, rfl⟩ := List.getElem_of_mem hp; exact pr_small hg hi) [] t.pairs.length (Nat.le_refl _)
      rw [List.append_nil, List.take_length, List.drop_length] at this
      exact this
    have hkn : t.kids = [] := List.eq_nil_of_length_eq_zero hk
    have ht : (⟨t.pairs, []⟩ : Tr) = t := by rw [← hkn]
    rw [hb]
    show decTB _ _ _ = _
    unfold decTB
    rw [hz _ hp4]
    simp only [beq_self_eq_true, hs, ht]
    rw [if_pos]
    unfold tOk
    simp only [ht, hg]
    rfl
  · have hb : t.bytes = 2 :: UInt8.ofNat t.kids.length :: t.kids.flatMap kdB := by unfold Tr.bytes; rw [if_neg hk]; rfl
    have hs : tsteps false ⟨t.kids.flatMap kdB, false⟩ t.kids.length = ⟨[], t.kids, ⟨[], false⟩⟩ := by
      have := tsteps_kds t.kids (fun p hp => by obtain ⟨i, hi, rfl⟩ := List.getElem_of_mem hp; exact ⟨(kd_small hg hi).1, hl _ hp, (kd_small hg hi).2⟩) [] t.kids.length (Nat.le_refl _)
      rw [List.append_nil, List.take_length, List.drop_length] at this
      exact this
    have hpn : t.pairs = [] := List.eq_nil_of_length_eq_zero (by omega)
    have ht : (⟨[], t.kids⟩ : Tr) = t := by rw [← hpn]
    have hf : ((2 : UInt8) == 1) = false := rfl
    rw [hb]
    show decTB _ _ _ = _
    unfold decTB
    rw [hz _ (by omega)]
    simp only [hf, hs, ht]
    rw [if_pos]
    unfold tOk
    simp only [ht, hg, beq_eq_false_iff_ne.2 hk]
    rfl

/-- Names one behind another. -/
structure ISt where
  ids : List (List UInt8)
  r : PR
def isteps (r : PR) : Nat → ISt
  | 0 => ⟨[], r⟩
  | k + 1 => ⟨(isteps r k).ids ++ [(pid (isteps r k).r).1], (pid (isteps r k).r).2⟩
theorem isteps_ok {r : PR} (h : r.Ok) : ∀ k, (isteps r k).r.Ok
  | 0 => h
  | k + 1 => (isteps_ok h k).pid
theorem isteps_len (r : PR) : ∀ k, (isteps r k).ids.length = k
  | 0 => rfl
  | k + 1 => by show ((isteps r k).ids ++ [_]).length = _; rw [List.length_append, isteps_len r k]; rfl
theorem isteps_sizes (r : PR) : ∀ k, (∀ p ∈ (isteps r k).ids, p.length = 33) ∧ (isteps r k).r.b.length ≤ r.b.length
  | 0 => ⟨fun p h => (by cases h), Nat.le_refl _⟩
  | k + 1 => by
    obtain ⟨h1, h2⟩ := isteps_sizes r k
    refine ⟨fun p hp => ?_, Nat.le_trans (pid_rest _) h2⟩
    have hp : p ∈ (isteps r k).ids ++ [_] := hp
    rcases List.mem_append.1 hp with hp | hp
    · exact h1 p hp
    · rw [List.mem_singleton] at hp; subst hp; exact pid_len _
theorem isteps_inv {r : PR} (hok : r.Ok) : ∀ k, (isteps r k).r.bad = false → r.bad = false ∧ r.b = (isteps r k).ids.flatMap idText ++ (isteps r k).r.b := by
  intro k
  induction k with
  | zero => intro h; exact ⟨h, rfl⟩
  | succ k ih =>
    intro hb
    have hb : (pid (isteps r k).r).2.bad = false := hb
    have hgk : (isteps r k).r.bad = false := by
      cases h : (isteps r k).r.bad with
      | false => rfl
      | true => rw [(isteps_ok hok k).eq h, pid_fail] at hb; cases hb
    obtain ⟨h0, e⟩ := ih hgk
    refine ⟨h0, ?_⟩
    show r.b = ((isteps r k).ids ++ [(pid (isteps r k).r).1]).flatMap idText ++ (pid (isteps r k).r).2.b
    obtain ⟨rb, rbad⟩ : ∃ rb rbad, (isteps r k).r = ⟨rb, rbad⟩ := ⟨_, _, rfl⟩
    generalize (isteps r k).r = q at hb hgk e rbad
    obtain ⟨qb, qbad⟩ := q
    simp only at hgk
    subst hgk
    obtain ⟨h1, _⟩ := pid_inv (x := (pid ⟨qb, false⟩).1) (r := (pid ⟨qb, false⟩).2) rfl hb
    rw [List.flatMap_append, e, List.append_assoc]
    simp only [List.flatMap_cons, List.flatMap_nil, List.append_nil]
    rw [← h1]
theorem isteps_of (xs : List (List UInt8)) (hs : ∀ x ∈ xs, x.length = 33 ∧ idGood x = true) (t : List UInt8) : ∀ k ≤ xs.length, isteps ⟨xs.flatMap idText ++ t, false⟩ k = ⟨xs.take k, ⟨(xs.drop k).flatMap idText ++ t, false⟩⟩ := by
  intro k
  induction k with
  | zero => intro _; rfl
  | succ k ih =>
    intro hk
    obtain ⟨h2, h3⟩ := hs _ (List.getElem_mem (show k < xs.length by omega))
    have e : isteps ⟨xs.flatMap idText ++ t, false⟩ (k + 1) = ⟨(isteps ⟨xs.flatMap idText ++ t, false⟩ k).ids ++ [(pid (isteps ⟨xs.flatMap idText ++ t, false⟩ k).r).1], (pid (isteps ⟨xs.flatMap idText ++ t, false⟩ k).r).2⟩ := rfl
    rw [e, ih (by omega), List.drop_eq_getElem_cons (show k < xs.length by omega), List.flatMap_cons, List.append_assoc, pid_of h2 h3]
    simp only
    rw [List.take_succ_eq_append_getElem (show k < xs.length by omega)]

/-- What is read behind a commit's head. -/
def cmSt (n : Nat) (b : List UInt8) : ISt := isteps (pid ⟨b, false⟩).2 n
def cmOf (n : Nat) (b : List UInt8) : Cm := ⟨(pid ⟨b, false⟩).1, (cmSt n b).ids, bstr ((cmSt n b).r.text 32).1, ((cmSt n b).r.text 32).2.int.1⟩
def cmR (n : Nat) (b : List UInt8) : PR := ((cmSt n b).r.text 32).2.int.2
def decCB (n : UInt8) (b : List UInt8) : Option Cm := if (!(cmR n.toNat b).bad && (cmR n.toNat b).b.length == 0) && (cmOf n.toNat b).good then some (cmOf n.toNat b) else none
/-- The commit of bytes. -/
def decC : List UInt8 → Option Cm
  | h :: n :: b => if h = 3 ∧ n.toNat ≤ 2 then decCB n b else none
  | _ => none
def Cm.ids (c : Cm) : Prop := c.root.length = 33 ∧ ∀ p ∈ c.parents, p.length = 33
theorem cm_ids {c : Cm} (h : c.good = true) : idGood c.root = true ∧ ∀ p ∈ c.parents, idGood p = true := by
  unfold Cm.good Cm.shape at h
  simp only [Bool.and_eq_true, List.all_eq_true, List.mem_range] at h
  refine ⟨h.1.2.2.2.2, fun p hp => ?_⟩
  obtain ⟨i, hi, rfl⟩ := List.getElem_of_mem hp
  have := h.2 i hi
  unfold paOk at this
  rw [paAt_get hi] at this
  simp only [Bool.and_eq_true] at this
  exact this.1
theorem decC_bytes {n : UInt8} {b x y : List UInt8} {r0 r1 r2 sr : PR} {ids : List (List UInt8)} {m : Nat} (hx : pid ⟨b, false⟩ = (x, r0)) (hs : isteps r0 n.toNat = ⟨ids, sr⟩) (hy : sr.text 32 = (y, r1)) (hm : r1.uint = (m, r2)) (h1 : r2.bad = false) (h2 : r2.b = []) :
    [3, UInt8.ofNat ids.length] ++ idText x ++ ids.flatMap idText ++ textB (blo (bstr y)) ++ intB (zag m) = 3 :: n :: b := by
  have hok0 : (PR.mk b false).Ok := fun h => by cases h
  have hr0 : r0.Ok := by have := hok0.pid; rw [hx] at this; exact this
  have hokI := isteps_ok hr0 n.toNat
  have hinv := isteps_inv hr0 n.toNat
  have hlen := isteps_len r0 n.toNat
  have hpi := pid_inv hx
  rw [hs] at hokI hinv hlen
  simp only at hokI hinv hlen
  have hr1 : r1.Ok := by have := hokI.text 32; rw [hy] at this; exact this
  have hb1 : r1.bad = false := by
    cases h : r1.bad with
    | false => rfl
    | true => rw [hr1.eq h, uint_fail] at hm; cases hm; cases h1
  have hbs : sr.bad = false := by
    cases h : sr.bad with
    | false => rfl
    | true => rw [hokI.eq h, text_fail] at hy; cases hy; cases hb1
  obtain ⟨hb0, e0⟩ := hinv hbs
  obtain ⟨e00, _⟩ := hpi hb0
  obtain ⟨r1b, r1bad⟩ := r1
  obtain ⟨srb, srbad⟩ := sr
  simp only at hb1 hbs e0
  subst hb1 hbs
  have e1 := text_inv hy rfl
  have e2 := uint_inv hm h1
  simp only at e1 e2
  rw [h2, List.append_nil] at e2
  rw [hlen, show UInt8.ofNat n.toNat = n from UInt8.ofNat_toNat, blo_bstr, intB, zig_zag, ← e2, e00, e0, e1]
  simp
theorem decC_good {bs : List UInt8} {c : Cm} (h : decC bs = some c) : c.good = true ∧ c.ids ∧ c.bytes = bs := by
  match bs, h with
  | hd :: n :: b, h =>
    have h' : (if hd = 3 ∧ n.toNat ≤ 2 then decCB n b else none) = some c := h
    clear h
    split at h'
    · rename_i hh
      obtain ⟨rfl, hn2⟩ := hh
      unfold decCB at h'
      split at h'
      · rename_i hok
        cases h'
        simp only [Bool.and_eq_true, Bool.not_eq_true', beq_iff_eq] at hok
        obtain ⟨⟨h1, h2⟩, h3⟩ := hok
        refine ⟨h3, ⟨pid_len _, fun p hp => (isteps_sizes _ _).1 p hp⟩, ?_⟩
        exact decC_bytes (x := (pid ⟨b, false⟩).1) (r0 := (pid ⟨b, false⟩).2) rfl (ids := (cmSt n.toNat b).ids) (sr := (cmSt n.toNat b).r) rfl (y := ((cmSt n.toNat b).r.text 32).1) (r1 := ((cmSt n.toNat b).r.text 32).2) rfl (m := ((cmSt n.toNat b).r.text 32).2.uint.1) (r2 := ((cmSt n.toNat b).r.text 32).2.uint.2) rfl h1 (List.eq_nil_of_length_eq_zero h2)
      · cases h'
    · cases h'
theorem decC_of {c : Cm} (hg : c.good = true) (hl : c.ids) : decC c.bytes = some c := by
  obtain ⟨hp2, hn32, h1, h2⟩ := cm_parts hg
  obtain ⟨hr, hps⟩ := cm_ids hg
  have hb : c.bytes = 3 :: UInt8.ofNat c.parents.length :: (idText c.root ++ (c.parents.flatMap idText ++ (textB (blo c.note) ++ (intB c.num ++ [])))) := by
    unfold Cm.bytes
    simp
  have hz : (UInt8.ofNat c.parents.length).toNat = c.parents.length := ofNat_small (by omega)
  have hs := isteps_of c.parents (fun p hp => ⟨hl.2 p hp, hps p hp⟩) (textB (blo c.note) ++ (intB c.num ++ [])) c.parents.length (Nat.le_refl _)
  rw [List.take_length, List.drop_length] at hs
  have hst : cmSt c.parents.length (idText c.root ++ (c.parents.flatMap idText ++ (textB (blo c.note) ++ (intB c.num ++ [])))) = ⟨c.parents, ⟨textB (blo c.note) ++ (intB c.num ++ []), false⟩⟩ := by
    unfold cmSt
    rw [pid_of hl.1 hr]
    exact hs
  have htx : PR.text ⟨textB (blo c.note) ++ (intB c.num ++ []), false⟩ 32 = (blo c.note, ⟨intB c.num ++ [], false⟩) := PR.text_of _ _ _ (by rw [blo_len]; omega) (by rw [blo_len]; omega)
  have hin := PR.int_of c.num (by omega) (by omega) [] false
  have hof : cmOf c.parents.length (idText c.root ++ (c.parents.flatMap idText ++ (textB (blo c.note) ++ (intB c.num ++ [])))) = c := by
    unfold cmOf
    rw [hst, pid_of hl.1 hr]
    simp only [htx, hin, bstr_blo]
  have hR : cmR c.parents.length (idText c.root ++ (c.parents.flatMap idText ++ (textB (blo c.note) ++ (intB c.num ++ [])))) = ⟨[], false⟩ := by
    unfold cmR
    rw [hst]
    simp only [htx, hin]
  rw [hb]
  show (if _ ∧ _ then decCB _ _ else none) = _
  rw [if_pos ⟨rfl, by rw [hz]; exact hp2⟩]
  unfold decCB
  rw [hz, hof, hR, hg]
  rfl
end Go.Proofs.YtcnhbodemabbdaaDoor
