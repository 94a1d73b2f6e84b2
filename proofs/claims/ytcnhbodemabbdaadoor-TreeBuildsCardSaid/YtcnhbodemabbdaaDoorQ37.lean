/- The walk of object.GoodCommit. Printed by wip/mkobjgoodc.py. -/
import Derived.Test.YtcnhbodemabbdaaDoorQ31
import Derived.Test.YtcnhbodemabbdaaDoorQ36
import Derived.Test.YtcnhbodemabbdaaDoorQ33
import Derived.Test.YtcnhbodemabbdaaDoorQ26
namespace Go.Proofs.YtcnhbodemabbdaaDoor
open Go.RowKit
set_option linter.unusedVariables false

theorem cm_cells {w : World} {g : Nat} {c : Cm} {qa : Option Addr} {Q qc : Nat} (h : Blk w g 42 (cmC c qa Q qc).toArray) (hr : c.root.length = 33) :
    Cells w (some ⟨g, 0, none⟩) (bv c.root) ∧ w.cell? ⟨g, 33, none⟩ = some (.slice qa Q qc) ∧ w.cell? ⟨g, 34, none⟩ = some (.string c.note) ∧ w.cell? ⟨g, 35, none⟩ = some (.int .i64 c.num) := by
  have hl : (bv c.root).length = 33 := by rw [bv_len, hr]
  have hc : ∀ j v, (cmC c qa Q qc)[j]? = some v → w.cell? ⟨g, j, none⟩ = some v := fun j v hv => by
    rw [h.cell, ← Array.getElem?_toList, List.toList_toArray]
    exact hv
  refine ⟨fun j v hv => ⟨_, rfl, ?_⟩, hc 33 _ ?_, hc 34 _ ?_, hc 35 _ ?_⟩
  · rw [add_new]
    refine hc j v ?_
    unfold cmC
    rw [List.getElem?_append_left (List.getElem?_eq_some_iff.1 hv).1]
    exact hv
  · unfold cmC; rw [List.getElem?_append_right (by omega), hl]; rfl
  · unfold cmC; rw [List.getElem?_append_right (by omega), hl]; rfl
  · unfold cmC; rw [List.getElem?_append_right (by omega), hl]; rfl
theorem id_box {w : World} {g : Nat} {b : List UInt8} (h : Blk w g 27 (bv b).toArray) : Cells w (some ⟨g, 0, none⟩) (bv b) := by
  have := h.cells
  rwa [List.toList_toArray] at this
theorem id_row {w : World} {a : Option Addr} {ps : List (List UInt8)} (h : Row w a 33 (ps.map bv)) {i : Nat} (hi : i < ps.length) :
    ∃ x, a = some x ∧ Cells w (some (x.add (i * 33))) (bv ps[i]) ∧ ∀ j v, (bv ps[i])[j]? = some v → w.cell? ((x.add (i * 33)).add j) = some v := by
  obtain ⟨x, hx, hc⟩ := h.get (i := i) (by simpa using hi)
  rw [List.getElem_map] at hc
  exact ⟨x, hx, fun j v hj => ⟨_, rfl, hc j v hj⟩, hc⟩
theorem paAt_get {ps : List (List UInt8)} {i : Nat} (h : i < ps.length) : ps.getD i [] = ps[i] := by rw [List.getD_eq_getElem?_getD, List.getElem?_eq_getElem h]; rfl

set_option maxRecDepth 100000 in
set_option maxHeartbeats 8000000 in
theorem goodCommit_1 (c : Cm) (qa : Option Addr) (Q qc : Nat) (w : World) (h : CmAt w c qa Q qc) (hf : (2 : Int) < (Q : Int)) :
    Calls Tryd.prog 66 #[cma c qa Q qc] w fun e w' => e = .returned (.bool false) ∧ Ext w w' := by
  have Hh := Lib.hid h
  have HR := Lib.hid h.hr
  have hn0 := h.n0
  have hn1 := h.n1
  have hsn := h.sn
  have hbq := h.bq
  clear h
  go_enter Tryd.func66, Tryd.ntmps66
  have hbox : Blk (w.alloc (.cells (cmC c qa Q qc).toArray 42)) w.heap.size 42 (cmC c qa Q qc).toArray := Blk.new w _ _
  have hx0 : Ext w (w.alloc (.cells (cmC c qa Q qc).toArray 42)) := (Ext.refl _).alloc _
  have Hbox := Lib.hid hbox
  have HGR := fun w' => idgood_calls c.root w' HR.out
  unfold idv at HGR
  clear hbox
  go_upto_region 1 with (fail)
  refine wp_region_text (RInv [5, 6, 7, 8, 9, 10, 11, 12, 13, 14, 15, 16, 17, 18, 19, 20, 21, 22, 23, 24, 25, 26, 27, 28, 29, 30] _ (w.alloc (.cells (cmC c qa Q qc).toArray 42)) [(0, 5, .pointer (some ⟨w.heap.size, 33, none⟩)), (1, 6, .slice qa Q qc), (2, 7, .int .i64 (Q : Int)), (3, 8, .bool true), (4, 9, .bool true), (5, 10, undef), (6, 11, undef), (7, 12, undef), (8, 13, undef), (9, 14, .bool true), (10, 15, .bool true), (11, 16, undef), (12, 17, undef), (13, 18, undef), (14, 19, .bool true), (15, 20, .bool true), (16, 21, undef), (17, 22, undef), (18, 23, undef), (19, 24, .bool true), (20, 25, .bool true), (21, 26, undef), (22, 27, undef), (23, 28, undef), (24, 29, undef), (25, 30, .bool true)] []) (by kernel_rfl) RInv.start ?_ ?_
  · refine ⟨?o0, ?o1, ?o2, ?o3, ?o4, ?o5, ?o6, ?o7, ?o8, ?o9, ?o10, ?o11, ?o12, ?o13, ?o14, ?o15, ?o16, ?o17, ?o18, ?o19, ?o20, ?o21, ?o22, ?o23, ?o24, ?o25, trivial⟩
    case o0 =>
      intro f a u h hfi hp hq
      exact h.yieldW rfl (wanted_none rfl) 5 rfl (by change 5 < 65; decide) rfl _ rfl (run_of_sem rfl (by rw [(show a.eval (.tmp 1) = .pointer (some ⟨w.heap.size, 0, none⟩) from h.agree.eval (by decide))]; exact f_cm1 _ _))
    case o1 =>
      intro f a u h hfi hp hq
      have hyu : Ext (w.alloc (.cells (cmC c qa Q qc).toArray 42)) u := h.ext
      exact h.yieldW rfl (wanted_none rfl) 6 rfl (by change 6 < 65; decide) rfl _ rfl (run_of_sem rfl (by rw [h.at_ 0 rfl (pre_of hp 0 rfl)]; exact ld_ids (cm_cells (Hbox.out.ext hyu) HR.out).2.1))
    case o2 =>
      intro f a u h hfi hp hq
      have q6 := h.att 1 rfl (pre_of hp 1 rfl)
      exact h.yieldW rfl (wanted_none rfl) 7 rfl (by change 7 < 65; decide) rfl _ rfl (by go_simp)
    case o3 =>
      intro f a u h hfi hp hq
      have q7 := h.att 2 rfl (pre_of hp 2 rfl)
      exact h.yieldW rfl (wanted_none rfl) 8 rfl (by change 8 < 65; decide) rfl _ rfl (by go_simp)
    case o4 =>
      intro f a u h hfi hp hq
      have q8 := h.att 3 rfl (pre_of hp 3 rfl)
      exact h.yieldW rfl (wanted_none rfl) 9 rfl (by change 9 < 65; decide) rfl _ rfl (by go_simp)
    case o5 =>
      intro f a u h hfi hp hq
      exact h.skip rfl (wanted_not (g := 4) (d' := 9) rfl rfl (h.at_ 4 rfl (pre_of hp 4 rfl)) rfl) 10 rfl (by change 10 < 65; decide) rfl rfl
    case o6 =>
      intro f a u h hfi hp hq
      exact h.skip rfl (wanted_not (g := 4) (d' := 9) rfl rfl (h.at_ 4 rfl (pre_of hp 4 rfl)) rfl) 11 rfl (by change 11 < 65; decide) rfl rfl
    case o7 =>
      intro f a u h hfi hp hq
      exact h.skip rfl (wanted_not (g := 4) (d' := 9) rfl rfl (h.at_ 4 rfl (pre_of hp 4 rfl)) rfl) 12 rfl (by change 12 < 65; decide) rfl rfl
    case o8 =>
      intro f a u h hfi hp hq
      exact h.skip rfl (wanted_not (g := 4) (d' := 9) rfl rfl (h.at_ 4 rfl (pre_of hp 4 rfl)) rfl) 13 rfl (by change 13 < 65; decide) rfl rfl
    case o9 =>
      intro f a u h hfi hp hq
      have q9 := h.att 4 rfl (pre_of hp 4 rfl)
      have q13 := h.att 8 rfl (pre_of hp 8 rfl)
      exact h.yieldW rfl (wanted_none rfl) 14 rfl (by change 14 < 65; decide) rfl _ rfl (by go_simp)
    case o10 =>
      intro f a u h hfi hp hq
      have q14 := h.att 9 rfl (pre_of hp 9 rfl)
      exact h.yieldW rfl (wanted_none rfl) 15 rfl (by change 15 < 65; decide) rfl _ rfl (by go_simp)
    case o11 =>
      intro f a u h hfi hp hq
      exact h.skip rfl (wanted_not (g := 10) (d' := 15) rfl rfl (h.at_ 10 rfl (pre_of hp 10 rfl)) rfl) 16 rfl (by change 16 < 65; decide) rfl rfl
    case o12 =>
      intro f a u h hfi hp hq
      exact h.skip rfl (wanted_not (g := 10) (d' := 15) rfl rfl (h.at_ 10 rfl (pre_of hp 10 rfl)) rfl) 17 rfl (by change 17 < 65; decide) rfl rfl
    case o13 =>
      intro f a u h hfi hp hq
      exact h.skip rfl (wanted_not (g := 10) (d' := 15) rfl rfl (h.at_ 10 rfl (pre_of hp 10 rfl)) rfl) 18 rfl (by change 18 < 65; decide) rfl rfl
    case o14 =>
      intro f a u h hfi hp hq
      have q15 := h.att 10 rfl (pre_of hp 10 rfl)
      have q18 := h.att 13 rfl (pre_of hp 13 rfl)
      exact h.yieldW rfl (wanted_none rfl) 19 rfl (by change 19 < 65; decide) rfl _ rfl (by go_simp)
    case o15 =>
      intro f a u h hfi hp hq
      have q19 := h.att 14 rfl (pre_of hp 14 rfl)
      exact h.yieldW rfl (wanted_none rfl) 20 rfl (by change 20 < 65; decide) rfl _ rfl (by go_simp)
    case o16 =>
      intro f a u h hfi hp hq
      exact h.skip rfl (wanted_not (g := 15) (d' := 20) rfl rfl (h.at_ 15 rfl (pre_of hp 15 rfl)) rfl) 21 rfl (by change 21 < 65; decide) rfl rfl
    case o17 =>
      intro f a u h hfi hp hq
      exact h.skip rfl (wanted_not (g := 15) (d' := 20) rfl rfl (h.at_ 15 rfl (pre_of hp 15 rfl)) rfl) 22 rfl (by change 22 < 65; decide) rfl rfl
    case o18 =>
      intro f a u h hfi hp hq
      exact h.skip rfl (wanted_not (g := 15) (d' := 20) rfl rfl (h.at_ 15 rfl (pre_of hp 15 rfl)) rfl) 23 rfl (by change 23 < 65; decide) rfl rfl
    case o19 =>
      intro f a u h hfi hp hq
      have q20 := h.att 15 rfl (pre_of hp 15 rfl)
      have q23 := h.att 18 rfl (pre_of hp 18 rfl)
      exact h.yieldW rfl (wanted_none rfl) 24 rfl (by change 24 < 65; decide) rfl _ rfl (by go_simp)
    case o20 =>
      intro f a u h hfi hp hq
      have q24 := h.att 19 rfl (pre_of hp 19 rfl)
      exact h.yieldW rfl (wanted_none rfl) 25 rfl (by change 25 < 65; decide) rfl _ rfl (by go_simp)
    case o21 =>
      intro f a u h hfi hp hq
      exact h.skip rfl (wanted_not (g := 20) (d' := 25) rfl rfl (h.at_ 20 rfl (pre_of hp 20 rfl)) rfl) 26 rfl (by change 26 < 65; decide) rfl rfl
    case o22 =>
      intro f a u h hfi hp hq
      exact h.skip rfl (wanted_not (g := 20) (d' := 25) rfl rfl (h.at_ 20 rfl (pre_of hp 20 rfl)) rfl) 27 rfl (by change 27 < 65; decide) rfl rfl
    case o23 =>
      intro f a u h hfi hp hq
      exact h.skip rfl (wanted_not (g := 20) (d' := 25) rfl rfl (h.at_ 20 rfl (pre_of hp 20 rfl)) rfl) 28 rfl (by change 28 < 65; decide) rfl rfl
    case o24 =>
      intro f a u h hfi hp hq
      exact h.skip rfl (wanted_not (g := 20) (d' := 25) rfl rfl (h.at_ 20 rfl (pre_of hp 20 rfl)) rfl) 29 rfl (by change 29 < 65; decide) rfl rfl
    case o25 =>
      intro f a u h hfi hp hq
      have q25 := h.att 20 rfl (pre_of hp 20 rfl)
      have q29 := h.att 24 rfl (pre_of hp 24 rfl)
      exact h.yieldW rfl (wanted_none rfl) 30 rfl (by change 30 < 65; decide) rfl _ rfl (by go_simp)
  · intro f a u h hall hfar
    have hag := h.agree.out
    have e30 := h.at_ 25 rfl (hall 25 (by decide))
    have hye := hx0.trans h.ext
    simp only [List.foldl_cons, List.foldl_nil, Act.put, List.setIfInBounds_toArray, List.set_cons_zero, List.set_cons_succ, e30] at hag
    generalize a.eval (.tmp 5) = y5 at hag
    generalize a.eval (.tmp 6) = y6 at hag
    generalize a.eval (.tmp 7) = y7 at hag
    generalize a.eval (.tmp 8) = y8 at hag
    generalize a.eval (.tmp 9) = y9 at hag
    generalize a.eval (.tmp 10) = y10 at hag
    generalize a.eval (.tmp 11) = y11 at hag
    generalize a.eval (.tmp 12) = y12 at hag
    generalize a.eval (.tmp 13) = y13 at hag
    generalize a.eval (.tmp 14) = y14 at hag
    generalize a.eval (.tmp 15) = y15 at hag
    generalize a.eval (.tmp 16) = y16 at hag
    generalize a.eval (.tmp 17) = y17 at hag
    generalize a.eval (.tmp 18) = y18 at hag
    generalize a.eval (.tmp 19) = y19 at hag
    generalize a.eval (.tmp 20) = y20 at hag
    generalize a.eval (.tmp 21) = y21 at hag
    generalize a.eval (.tmp 22) = y22 at hag
    generalize a.eval (.tmp 23) = y23 at hag
    generalize a.eval (.tmp 24) = y24 at hag
    generalize a.eval (.tmp 25) = y25 at hag
    generalize a.eval (.tmp 26) = y26 at hag
    generalize a.eval (.tmp 27) = y27 at hag
    generalize a.eval (.tmp 28) = y28 at hag
    generalize a.eval (.tmp 29) = y29 at hag
    clear h hall hfar e30
    subst hag
    go_wp2
    go_ret
    exact ⟨rfl, hye⟩

set_option maxRecDepth 100000 in
set_option maxHeartbeats 8000000 in
theorem goodCommit_2 (c : Cm) (qa : Option Addr) (Q qc : Nat) (w : World) (h : CmAt w c qa Q qc) (h1 : ¬ (2 : Int) < (Q : Int)) (hf : (32 : Int) < (c.note.size : Int)) :
    Calls Tryd.prog 66 #[cma c qa Q qc] w fun e w' => e = .returned (.bool false) ∧ Ext w w' := by
  have Hh := Lib.hid h
  have HR := Lib.hid h.hr
  have hn0 := h.n0
  have hn1 := h.n1
  have hsn := h.sn
  have hbq := h.bq
  clear h
  go_enter Tryd.func66, Tryd.ntmps66
  have hbox : Blk (w.alloc (.cells (cmC c qa Q qc).toArray 42)) w.heap.size 42 (cmC c qa Q qc).toArray := Blk.new w _ _
  have hx0 : Ext w (w.alloc (.cells (cmC c qa Q qc).toArray 42)) := (Ext.refl _).alloc _
  have Hbox := Lib.hid hbox
  have HGR := fun w' => idgood_calls c.root w' HR.out
  unfold idv at HGR
  clear hbox
  go_upto_region 1 with (fail)
  refine wp_region_text (RInv [5, 6, 7, 8, 9, 10, 11, 12, 13, 14, 15, 16, 17, 18, 19, 20, 21, 22, 23, 24, 25, 26, 27, 28, 29, 30] _ (w.alloc (.cells (cmC c qa Q qc).toArray 42)) [(0, 5, .pointer (some ⟨w.heap.size, 33, none⟩)), (1, 6, .slice qa Q qc), (2, 7, .int .i64 (Q : Int)), (3, 8, .bool false), (4, 9, .bool false), (5, 10, .pointer (some ⟨w.heap.size, 34, none⟩)), (6, 11, .string c.note), (7, 12, .int .i64 (c.note.size : Int)), (8, 13, .bool true), (9, 14, .bool true), (10, 15, .bool true), (11, 16, undef), (12, 17, undef), (13, 18, undef), (14, 19, .bool true), (15, 20, .bool true), (16, 21, undef), (17, 22, undef), (18, 23, undef), (19, 24, .bool true), (20, 25, .bool true), (21, 26, undef), (22, 27, undef), (23, 28, undef), (24, 29, undef), (25, 30, .bool true)] []) (by kernel_rfl) RInv.start ?_ ?_
  · refine ⟨?o0, ?o1, ?o2, ?o3, ?o4, ?o5, ?o6, ?o7, ?o8, ?o9, ?o10, ?o11, ?o12, ?o13, ?o14, ?o15, ?o16, ?o17, ?o18, ?o19, ?o20, ?o21, ?o22, ?o23, ?o24, ?o25, trivial⟩
    case o0 =>
      intro f a u h hfi hp hq
      exact h.yieldW rfl (wanted_none rfl) 5 rfl (by change 5 < 65; decide) rfl _ rfl (run_of_sem rfl (by rw [(show a.eval (.tmp 1) = .pointer (some ⟨w.heap.size, 0, none⟩) from h.agree.eval (by decide))]; exact f_cm1 _ _))
    case o1 =>
      intro f a u h hfi hp hq
      have hyu : Ext (w.alloc (.cells (cmC c qa Q qc).toArray 42)) u := h.ext
      exact h.yieldW rfl (wanted_none rfl) 6 rfl (by change 6 < 65; decide) rfl _ rfl (run_of_sem rfl (by rw [h.at_ 0 rfl (pre_of hp 0 rfl)]; exact ld_ids (cm_cells (Hbox.out.ext hyu) HR.out).2.1))
    case o2 =>
      intro f a u h hfi hp hq
      have q6 := h.att 1 rfl (pre_of hp 1 rfl)
      exact h.yieldW rfl (wanted_none rfl) 7 rfl (by change 7 < 65; decide) rfl _ rfl (by go_simp)
    case o3 =>
      intro f a u h hfi hp hq
      have q7 := h.att 2 rfl (pre_of hp 2 rfl)
      exact h.yieldW rfl (wanted_none rfl) 8 rfl (by change 8 < 65; decide) rfl _ rfl (by go_simp)
    case o4 =>
      intro f a u h hfi hp hq
      have q8 := h.att 3 rfl (pre_of hp 3 rfl)
      exact h.yieldW rfl (wanted_none rfl) 9 rfl (by change 9 < 65; decide) rfl _ rfl (by go_simp)
    case o5 =>
      intro f a u h hfi hp hq
      exact h.yieldW rfl (wanted_yes (g := 4) (d' := 9) rfl rfl (h.at_ 4 rfl (pre_of hp 4 rfl))) 10 rfl (by change 10 < 65; decide) rfl _ rfl (run_of_sem rfl (by rw [(show a.eval (.tmp 1) = .pointer (some ⟨w.heap.size, 0, none⟩) from h.agree.eval (by decide))]; exact f_cm2 _ _))
    case o6 =>
      intro f a u h hfi hp hq
      have hyu : Ext (w.alloc (.cells (cmC c qa Q qc).toArray 42)) u := h.ext
      exact h.yieldW rfl (wanted_yes (g := 4) (d' := 9) rfl rfl (h.at_ 4 rfl (pre_of hp 4 rfl))) 11 rfl (by change 11 < 65; decide) rfl _ rfl (run_of_sem rfl (by rw [h.at_ 5 rfl (pre_of hp 5 rfl)]; exact ld_str (cm_cells (Hbox.out.ext hyu) HR.out).2.2.1))
    case o7 =>
      intro f a u h hfi hp hq
      have q11 := h.att 6 rfl (pre_of hp 6 rfl)
      exact h.yieldW rfl (wanted_yes (g := 4) (d' := 9) rfl rfl (h.at_ 4 rfl (pre_of hp 4 rfl))) 12 rfl (by change 12 < 65; decide) rfl _ rfl (by go_simp)
    case o8 =>
      intro f a u h hfi hp hq
      have q12 := h.att 7 rfl (pre_of hp 7 rfl)
      exact h.yieldW rfl (wanted_yes (g := 4) (d' := 9) rfl rfl (h.at_ 4 rfl (pre_of hp 4 rfl))) 13 rfl (by change 13 < 65; decide) rfl _ rfl (by go_simp)
    case o9 =>
      intro f a u h hfi hp hq
      have q9 := h.att 4 rfl (pre_of hp 4 rfl)
      have q13 := h.att 8 rfl (pre_of hp 8 rfl)
      exact h.yieldW rfl (wanted_none rfl) 14 rfl (by change 14 < 65; decide) rfl _ rfl (by go_simp)
    case o10 =>
      intro f a u h hfi hp hq
      have q14 := h.att 9 rfl (pre_of hp 9 rfl)
      exact h.yieldW rfl (wanted_none rfl) 15 rfl (by change 15 < 65; decide) rfl _ rfl (by go_simp)
    case o11 =>
      intro f a u h hfi hp hq
      exact h.skip rfl (wanted_not (g := 10) (d' := 15) rfl rfl (h.at_ 10 rfl (pre_of hp 10 rfl)) rfl) 16 rfl (by change 16 < 65; decide) rfl rfl
    case o12 =>
      intro f a u h hfi hp hq
      exact h.skip rfl (wanted_not (g := 10) (d' := 15) rfl rfl (h.at_ 10 rfl (pre_of hp 10 rfl)) rfl) 17 rfl (by change 17 < 65; decide) rfl rfl
    case o13 =>
      intro f a u h hfi hp hq
      exact h.skip rfl (wanted_not (g := 10) (d' := 15) rfl rfl (h.at_ 10 rfl (pre_of hp 10 rfl)) rfl) 18 rfl (by change 18 < 65; decide) rfl rfl
    case o14 =>
      intro f a u h hfi hp hq
      have q15 := h.att 10 rfl (pre_of hp 10 rfl)
      have q18 := h.att 13 rfl (pre_of hp 13 rfl)
      exact h.yieldW rfl (wanted_none rfl) 19 rfl (by change 19 < 65; decide) rfl _ rfl (by go_simp)
    case o15 =>
      intro f a u h hfi hp hq
      have q19 := h.att 14 rfl (pre_of hp 14 rfl)
      exact h.yieldW rfl (wanted_none rfl) 20 rfl (by change 20 < 65; decide) rfl _ rfl (by go_simp)
    case o16 =>
      intro f a u h hfi hp hq
      exact h.skip rfl (wanted_not (g := 15) (d' := 20) rfl rfl (h.at_ 15 rfl (pre_of hp 15 rfl)) rfl) 21 rfl (by change 21 < 65; decide) rfl rfl
    case o17 =>
      intro f a u h hfi hp hq
      exact h.skip rfl (wanted_not (g := 15) (d' := 20) rfl rfl (h.at_ 15 rfl (pre_of hp 15 rfl)) rfl) 22 rfl (by change 22 < 65; decide) rfl rfl
    case o18 =>
      intro f a u h hfi hp hq
      exact h.skip rfl (wanted_not (g := 15) (d' := 20) rfl rfl (h.at_ 15 rfl (pre_of hp 15 rfl)) rfl) 23 rfl (by change 23 < 65; decide) rfl rfl
    case o19 =>
      intro f a u h hfi hp hq
      have q20 := h.att 15 rfl (pre_of hp 15 rfl)
      have q23 := h.att 18 rfl (pre_of hp 18 rfl)
      exact h.yieldW rfl (wanted_none rfl) 24 rfl (by change 24 < 65; decide) rfl _ rfl (by go_simp)
    case o20 =>
      intro f a u h hfi hp hq
      have q24 := h.att 19 rfl (pre_of hp 19 rfl)
      exact h.yieldW rfl (wanted_none rfl) 25 rfl (by change 25 < 65; decide) rfl _ rfl (by go_simp)
    case o21 =>
      intro f a u h hfi hp hq
      exact h.skip rfl (wanted_not (g := 20) (d' := 25) rfl rfl (h.at_ 20 rfl (pre_of hp 20 rfl)) rfl) 26 rfl (by change 26 < 65; decide) rfl rfl
    case o22 =>
      intro f a u h hfi hp hq
      exact h.skip rfl (wanted_not (g := 20) (d' := 25) rfl rfl (h.at_ 20 rfl (pre_of hp 20 rfl)) rfl) 27 rfl (by change 27 < 65; decide) rfl rfl
    case o23 =>
      intro f a u h hfi hp hq
      exact h.skip rfl (wanted_not (g := 20) (d' := 25) rfl rfl (h.at_ 20 rfl (pre_of hp 20 rfl)) rfl) 28 rfl (by change 28 < 65; decide) rfl rfl
    case o24 =>
      intro f a u h hfi hp hq
      exact h.skip rfl (wanted_not (g := 20) (d' := 25) rfl rfl (h.at_ 20 rfl (pre_of hp 20 rfl)) rfl) 29 rfl (by change 29 < 65; decide) rfl rfl
    case o25 =>
      intro f a u h hfi hp hq
      have q25 := h.att 20 rfl (pre_of hp 20 rfl)
      have q29 := h.att 24 rfl (pre_of hp 24 rfl)
      exact h.yieldW rfl (wanted_none rfl) 30 rfl (by change 30 < 65; decide) rfl _ rfl (by go_simp)
  · intro f a u h hall hfar
    have hag := h.agree.out
    have e30 := h.at_ 25 rfl (hall 25 (by decide))
    have hye := hx0.trans h.ext
    simp only [List.foldl_cons, List.foldl_nil, Act.put, List.setIfInBounds_toArray, List.set_cons_zero, List.set_cons_succ, e30] at hag
    generalize a.eval (.tmp 5) = y5 at hag
    generalize a.eval (.tmp 6) = y6 at hag
    generalize a.eval (.tmp 7) = y7 at hag
    generalize a.eval (.tmp 8) = y8 at hag
    generalize a.eval (.tmp 9) = y9 at hag
    generalize a.eval (.tmp 10) = y10 at hag
    generalize a.eval (.tmp 11) = y11 at hag
    generalize a.eval (.tmp 12) = y12 at hag
    generalize a.eval (.tmp 13) = y13 at hag
    generalize a.eval (.tmp 14) = y14 at hag
    generalize a.eval (.tmp 15) = y15 at hag
    generalize a.eval (.tmp 16) = y16 at hag
    generalize a.eval (.tmp 17) = y17 at hag
    generalize a.eval (.tmp 18) = y18 at hag
    generalize a.eval (.tmp 19) = y19 at hag
    generalize a.eval (.tmp 20) = y20 at hag
    generalize a.eval (.tmp 21) = y21 at hag
    generalize a.eval (.tmp 22) = y22 at hag
    generalize a.eval (.tmp 23) = y23 at hag
    generalize a.eval (.tmp 24) = y24 at hag
    generalize a.eval (.tmp 25) = y25 at hag
    generalize a.eval (.tmp 26) = y26 at hag
    generalize a.eval (.tmp 27) = y27 at hag
    generalize a.eval (.tmp 28) = y28 at hag
    generalize a.eval (.tmp 29) = y29 at hag
    clear h hall hfar e30
    subst hag
    go_wp2
    go_ret
    exact ⟨rfl, hye⟩

set_option maxRecDepth 100000 in
set_option maxHeartbeats 8000000 in
theorem goodCommit_3 (c : Cm) (qa : Option Addr) (Q qc : Nat) (w : World) (h : CmAt w c qa Q qc) (h1 : ¬ (2 : Int) < (Q : Int)) (h2 : ¬ (32 : Int) < (c.note.size : Int)) (hf : c.num < 1) :
    Calls Tryd.prog 66 #[cma c qa Q qc] w fun e w' => e = .returned (.bool false) ∧ Ext w w' := by
  have Hh := Lib.hid h
  have HR := Lib.hid h.hr
  have hn0 := h.n0
  have hn1 := h.n1
  have hsn := h.sn
  have hbq := h.bq
  clear h
  go_enter Tryd.func66, Tryd.ntmps66
  have hbox : Blk (w.alloc (.cells (cmC c qa Q qc).toArray 42)) w.heap.size 42 (cmC c qa Q qc).toArray := Blk.new w _ _
  have hx0 : Ext w (w.alloc (.cells (cmC c qa Q qc).toArray 42)) := (Ext.refl _).alloc _
  have Hbox := Lib.hid hbox
  have HGR := fun w' => idgood_calls c.root w' HR.out
  unfold idv at HGR
  clear hbox
  go_upto_region 1 with (fail)
  refine wp_region_text (RInv [5, 6, 7, 8, 9, 10, 11, 12, 13, 14, 15, 16, 17, 18, 19, 20, 21, 22, 23, 24, 25, 26, 27, 28, 29, 30] _ (w.alloc (.cells (cmC c qa Q qc).toArray 42)) [(0, 5, .pointer (some ⟨w.heap.size, 33, none⟩)), (1, 6, .slice qa Q qc), (2, 7, .int .i64 (Q : Int)), (3, 8, .bool false), (4, 9, .bool false), (5, 10, .pointer (some ⟨w.heap.size, 34, none⟩)), (6, 11, .string c.note), (7, 12, .int .i64 (c.note.size : Int)), (8, 13, .bool false), (9, 14, .bool false), (10, 15, .bool false), (11, 16, .pointer (some ⟨w.heap.size, 35, none⟩)), (12, 17, .int .i64 c.num), (13, 18, .bool true), (14, 19, .bool true), (15, 20, .bool true), (16, 21, undef), (17, 22, undef), (18, 23, undef), (19, 24, .bool true), (20, 25, .bool true), (21, 26, undef), (22, 27, undef), (23, 28, undef), (24, 29, undef), (25, 30, .bool true)] []) (by kernel_rfl) RInv.start ?_ ?_
  · refine ⟨?o0, ?o1, ?o2, ?o3, ?o4, ?o5, ?o6, ?o7, ?o8, ?o9, ?o10, ?o11, ?o12, ?o13, ?o14, ?o15, ?o16, ?o17, ?o18, ?o19, ?o20, ?o21, ?o22, ?o23, ?o24, ?o25, trivial⟩
    case o0 =>
      intro f a u h hfi hp hq
      exact h.yieldW rfl (wanted_none rfl) 5 rfl (by change 5 < 65; decide) rfl _ rfl (run_of_sem rfl (by rw [(show a.eval (.tmp 1) = .pointer (some ⟨w.heap.size, 0, none⟩) from h.agree.eval (by decide))]; exact f_cm1 _ _))
    case o1 =>
      intro f a u h hfi hp hq
      have hyu : Ext (w.alloc (.cells (cmC c qa Q qc).toArray 42)) u := h.ext
      exact h.yieldW rfl (wanted_none rfl) 6 rfl (by change 6 < 65; decide) rfl _ rfl (run_of_sem rfl (by rw [h.at_ 0 rfl (pre_of hp 0 rfl)]; exact ld_ids (cm_cells (Hbox.out.ext hyu) HR.out).2.1))
    case o2 =>
      intro f a u h hfi hp hq
      have q6 := h.att 1 rfl (pre_of hp 1 rfl)
      exact h.yieldW rfl (wanted_none rfl) 7 rfl (by change 7 < 65; decide) rfl _ rfl (by go_simp)
    case o3 =>
      intro f a u h hfi hp hq
      have q7 := h.att 2 rfl (pre_of hp 2 rfl)
      exact h.yieldW rfl (wanted_none rfl) 8 rfl (by change 8 < 65; decide) rfl _ rfl (by go_simp)
    case o4 =>
      intro f a u h hfi hp hq
      have q8 := h.att 3 rfl (pre_of hp 3 rfl)
      exact h.yieldW rfl (wanted_none rfl) 9 rfl (by change 9 < 65; decide) rfl _ rfl (by go_simp)
    case o5 =>
      intro f a u h hfi hp hq
      exact h.yieldW rfl (wanted_yes (g := 4) (d' := 9) rfl rfl (h.at_ 4 rfl (pre_of hp 4 rfl))) 10 rfl (by change 10 < 65; decide) rfl _ rfl (run_of_sem rfl (by rw [(show a.eval (.tmp 1) = .pointer (some ⟨w.heap.size, 0, none⟩) from h.agree.eval (by decide))]; exact f_cm2 _ _))
    case o6 =>
      intro f a u h hfi hp hq
      have hyu : Ext (w.alloc (.cells (cmC c qa Q qc).toArray 42)) u := h.ext
      exact h.yieldW rfl (wanted_yes (g := 4) (d' := 9) rfl rfl (h.at_ 4 rfl (pre_of hp 4 rfl))) 11 rfl (by change 11 < 65; decide) rfl _ rfl (run_of_sem rfl (by rw [h.at_ 5 rfl (pre_of hp 5 rfl)]; exact ld_str (cm_cells (Hbox.out.ext hyu) HR.out).2.2.1))
    case o7 =>
      intro f a u h hfi hp hq
      have q11 := h.att 6 rfl (pre_of hp 6 rfl)
      exact h.yieldW rfl (wanted_yes (g := 4) (d' := 9) rfl rfl (h.at_ 4 rfl (pre_of hp 4 rfl))) 12 rfl (by change 12 < 65; decide) rfl _ rfl (by go_simp)
    case o8 =>
      intro f a u h hfi hp hq
      have q12 := h.att 7 rfl (pre_of hp 7 rfl)
      exact h.yieldW rfl (wanted_yes (g := 4) (d' := 9) rfl rfl (h.at_ 4 rfl (pre_of hp 4 rfl))) 13 rfl (by change 13 < 65; decide) rfl _ rfl (by go_simp)
    case o9 =>
      intro f a u h hfi hp hq
      have q9 := h.att 4 rfl (pre_of hp 4 rfl)
      have q13 := h.att 8 rfl (pre_of hp 8 rfl)
      exact h.yieldW rfl (wanted_none rfl) 14 rfl (by change 14 < 65; decide) rfl _ rfl (by go_simp)
    case o10 =>
      intro f a u h hfi hp hq
      have q14 := h.att 9 rfl (pre_of hp 9 rfl)
      exact h.yieldW rfl (wanted_none rfl) 15 rfl (by change 15 < 65; decide) rfl _ rfl (by go_simp)
    case o11 =>
      intro f a u h hfi hp hq
      exact h.yieldW rfl (wanted_yes (g := 10) (d' := 15) rfl rfl (h.at_ 10 rfl (pre_of hp 10 rfl))) 16 rfl (by change 16 < 65; decide) rfl _ rfl (run_of_sem rfl (by rw [(show a.eval (.tmp 1) = .pointer (some ⟨w.heap.size, 0, none⟩) from h.agree.eval (by decide))]; exact f_cm3 _ _))
    case o12 =>
      intro f a u h hfi hp hq
      have hyu : Ext (w.alloc (.cells (cmC c qa Q qc).toArray 42)) u := h.ext
      exact h.yieldW rfl (wanted_yes (g := 10) (d' := 15) rfl rfl (h.at_ 10 rfl (pre_of hp 10 rfl))) 17 rfl (by change 17 < 65; decide) rfl _ rfl (run_of_sem rfl (by rw [h.at_ 11 rfl (pre_of hp 11 rfl)]; exact ld_int (cm_cells (Hbox.out.ext hyu) HR.out).2.2.2))
    case o13 =>
      intro f a u h hfi hp hq
      have q17 := h.att 12 rfl (pre_of hp 12 rfl)
      exact h.yieldW rfl (wanted_yes (g := 10) (d' := 15) rfl rfl (h.at_ 10 rfl (pre_of hp 10 rfl))) 18 rfl (by change 18 < 65; decide) rfl _ rfl (by go_simp)
    case o14 =>
      intro f a u h hfi hp hq
      have q15 := h.att 10 rfl (pre_of hp 10 rfl)
      have q18 := h.att 13 rfl (pre_of hp 13 rfl)
      exact h.yieldW rfl (wanted_none rfl) 19 rfl (by change 19 < 65; decide) rfl _ rfl (by go_simp)
    case o15 =>
      intro f a u h hfi hp hq
      have q19 := h.att 14 rfl (pre_of hp 14 rfl)
      exact h.yieldW rfl (wanted_none rfl) 20 rfl (by change 20 < 65; decide) rfl _ rfl (by go_simp)
    case o16 =>
      intro f a u h hfi hp hq
      exact h.skip rfl (wanted_not (g := 15) (d' := 20) rfl rfl (h.at_ 15 rfl (pre_of hp 15 rfl)) rfl) 21 rfl (by change 21 < 65; decide) rfl rfl
    case o17 =>
      intro f a u h hfi hp hq
      exact h.skip rfl (wanted_not (g := 15) (d' := 20) rfl rfl (h.at_ 15 rfl (pre_of hp 15 rfl)) rfl) 22 rfl (by change 22 < 65; decide) rfl rfl
    case o18 =>
      intro f a u h hfi hp hq
      exact h.skip rfl (wanted_not (g := 15) (d' := 20) rfl rfl (h.at_ 15 rfl (pre_of hp 15 rfl)) rfl) 23 rfl (by change 23 < 65; decide) rfl rfl
    case o19 =>
      intro f a u h hfi hp hq
      have q20 := h.att 15 rfl (pre_of hp 15 rfl)
      have q23 := h.att 18 rfl (pre_of hp 18 rfl)
      exact h.yieldW rfl (wanted_none rfl) 24 rfl (by change 24 < 65; decide) rfl _ rfl (by go_simp)
    case o20 =>
      intro f a u h hfi hp hq
      have q24 := h.att 19 rfl (pre_of hp 19 rfl)
      exact h.yieldW rfl (wanted_none rfl) 25 rfl (by change 25 < 65; decide) rfl _ rfl (by go_simp)
    case o21 =>
      intro f a u h hfi hp hq
      exact h.skip rfl (wanted_not (g := 20) (d' := 25) rfl rfl (h.at_ 20 rfl (pre_of hp 20 rfl)) rfl) 26 rfl (by change 26 < 65; decide) rfl rfl
    case o22 =>
      intro f a u h hfi hp hq
      exact h.skip rfl (wanted_not (g := 20) (d' := 25) rfl rfl (h.at_ 20 rfl (pre_of hp 20 rfl)) rfl) 27 rfl (by change 27 < 65; decide) rfl rfl
    case o23 =>
      intro f a u h hfi hp hq
      exact h.skip rfl (wanted_not (g := 20) (d' := 25) rfl rfl (h.at_ 20 rfl (pre_of hp 20 rfl)) rfl) 28 rfl (by change 28 < 65; decide) rfl rfl
    case o24 =>
      intro f a u h hfi hp hq
      exact h.skip rfl (wanted_not (g := 20) (d' := 25) rfl rfl (h.at_ 20 rfl (pre_of hp 20 rfl)) rfl) 29 rfl (by change 29 < 65; decide) rfl rfl
    case o25 =>
      intro f a u h hfi hp hq
      have q25 := h.att 20 rfl (pre_of hp 20 rfl)
      have q29 := h.att 24 rfl (pre_of hp 24 rfl)
      exact h.yieldW rfl (wanted_none rfl) 30 rfl (by change 30 < 65; decide) rfl _ rfl (by go_simp)
  · intro f a u h hall hfar
    have hag := h.agree.out
    have e30 := h.at_ 25 rfl (hall 25 (by decide))
    have hye := hx0.trans h.ext
    simp only [List.foldl_cons, List.foldl_nil, Act.put, List.setIfInBounds_toArray, List.set_cons_zero, List.set_cons_succ, e30] at hag
    generalize a.eval (.tmp 5) = y5 at hag
    generalize a.eval (.tmp 6) = y6 at hag
    generalize a.eval (.tmp 7) = y7 at hag
    generalize a.eval (.tmp 8) = y8 at hag
    generalize a.eval (.tmp 9) = y9 at hag
    generalize a.eval (.tmp 10) = y10 at hag
    generalize a.eval (.tmp 11) = y11 at hag
    generalize a.eval (.tmp 12) = y12 at hag
    generalize a.eval (.tmp 13) = y13 at hag
    generalize a.eval (.tmp 14) = y14 at hag
    generalize a.eval (.tmp 15) = y15 at hag
    generalize a.eval (.tmp 16) = y16 at hag
    generalize a.eval (.tmp 17) = y17 at hag
    generalize a.eval (.tmp 18) = y18 at hag
    generalize a.eval (.tmp 19) = y19 at hag
    generalize a.eval (.tmp 20) = y20 at hag
    generalize a.eval (.tmp 21) = y21 at hag
    generalize a.eval (.tmp 22) = y22 at hag
    generalize a.eval (.tmp 23) = y23 at hag
    generalize a.eval (.tmp 24) = y24 at hag
    generalize a.eval (.tmp 25) = y25 at hag
    generalize a.eval (.tmp 26) = y26 at hag
    generalize a.eval (.tmp 27) = y27 at hag
    generalize a.eval (.tmp 28) = y28 at hag
    generalize a.eval (.tmp 29) = y29 at hag
    clear h hall hfar e30
    subst hag
    go_wp2
    go_ret
    exact ⟨rfl, hye⟩

set_option maxRecDepth 100000 in
set_option maxHeartbeats 8000000 in
theorem goodCommit_4 (c : Cm) (qa : Option Addr) (Q qc : Nat) (w : World) (h : CmAt w c qa Q qc) (h1 : ¬ (2 : Int) < (Q : Int)) (h2 : ¬ (32 : Int) < (c.note.size : Int)) (h3 : ¬ c.num < 1) (hf : 1024 < c.num) :
    Calls Tryd.prog 66 #[cma c qa Q qc] w fun e w' => e = .returned (.bool false) ∧ Ext w w' := by
  have Hh := Lib.hid h
  have HR := Lib.hid h.hr
  have hn0 := h.n0
  have hn1 := h.n1
  have hsn := h.sn
  have hbq := h.bq
  clear h
  go_enter Tryd.func66, Tryd.ntmps66
  have hbox : Blk (w.alloc (.cells (cmC c qa Q qc).toArray 42)) w.heap.size 42 (cmC c qa Q qc).toArray := Blk.new w _ _
  have hx0 : Ext w (w.alloc (.cells (cmC c qa Q qc).toArray 42)) := (Ext.refl _).alloc _
  have Hbox := Lib.hid hbox
  have HGR := fun w' => idgood_calls c.root w' HR.out
  unfold idv at HGR
  clear hbox
  go_upto_region 1 with (fail)
  refine wp_region_text (RInv [5, 6, 7, 8, 9, 10, 11, 12, 13, 14, 15, 16, 17, 18, 19, 20, 21, 22, 23, 24, 25, 26, 27, 28, 29, 30] _ (w.alloc (.cells (cmC c qa Q qc).toArray 42)) [(0, 5, .pointer (some ⟨w.heap.size, 33, none⟩)), (1, 6, .slice qa Q qc), (2, 7, .int .i64 (Q : Int)), (3, 8, .bool false), (4, 9, .bool false), (5, 10, .pointer (some ⟨w.heap.size, 34, none⟩)), (6, 11, .string c.note), (7, 12, .int .i64 (c.note.size : Int)), (8, 13, .bool false), (9, 14, .bool false), (10, 15, .bool false), (11, 16, .pointer (some ⟨w.heap.size, 35, none⟩)), (12, 17, .int .i64 c.num), (13, 18, .bool false), (14, 19, .bool false), (15, 20, .bool false), (16, 21, .pointer (some ⟨w.heap.size, 35, none⟩)), (17, 22, .int .i64 c.num), (18, 23, .bool true), (19, 24, .bool true), (20, 25, .bool true), (21, 26, undef), (22, 27, undef), (23, 28, undef), (24, 29, undef), (25, 30, .bool true)] []) (by kernel_rfl) RInv.start ?_ ?_
  · refine ⟨?o0, ?o1, ?o2, ?o3, ?o4, ?o5, ?o6, ?o7, ?o8, ?o9, ?o10, ?o11, ?o12, ?o13, ?o14, ?o15, ?o16, ?o17, ?o18, ?o19, ?o20, ?o21, ?o22, ?o23, ?o24, ?o25, trivial⟩
    case o0 =>
      intro f a u h hfi hp hq
      exact h.yieldW rfl (wanted_none rfl) 5 rfl (by change 5 < 65; decide) rfl _ rfl (run_of_sem rfl (by rw [(show a.eval (.tmp 1) = .pointer (some ⟨w.heap.size, 0, none⟩) from h.agree.eval (by decide))]; exact f_cm1 _ _))
    case o1 =>
      intro f a u h hfi hp hq
      have hyu : Ext (w.alloc (.cells (cmC c qa Q qc).toArray 42)) u := h.ext
      exact h.yieldW rfl (wanted_none rfl) 6 rfl (by change 6 < 65; decide) rfl _ rfl (run_of_sem rfl (by rw [h.at_ 0 rfl (pre_of hp 0 rfl)]; exact ld_ids (cm_cells (Hbox.out.ext hyu) HR.out).2.1))
    case o2 =>
      intro f a u h hfi hp hq
      have q6 := h.att 1 rfl (pre_of hp 1 rfl)
      exact h.yieldW rfl (wanted_none rfl) 7 rfl (by change 7 < 65; decide) rfl _ rfl (by go_simp)
    case o3 =>
      intro f a u h hfi hp hq
      have q7 := h.att 2 rfl (pre_of hp 2 rfl)
      exact h.yieldW rfl (wanted_none rfl) 8 rfl (by change 8 < 65; decide) rfl _ rfl (by go_simp)
    case o4 =>
      intro f a u h hfi hp hq
      have q8 := h.att 3 rfl (pre_of hp 3 rfl)
      exact h.yieldW rfl (wanted_none rfl) 9 rfl (by change 9 < 65; decide) rfl _ rfl (by go_simp)
    case o5 =>
      intro f a u h hfi hp hq
      exact h.yieldW rfl (wanted_yes (g := 4) (d' := 9) rfl rfl (h.at_ 4 rfl (pre_of hp 4 rfl))) 10 rfl (by change 10 < 65; decide) rfl _ rfl (run_of_sem rfl (by rw [(show a.eval (.tmp 1) = .pointer (some ⟨w.heap.size, 0, none⟩) from h.agree.eval (by decide))]; exact f_cm2 _ _))
    case o6 =>
      intro f a u h hfi hp hq
      have hyu : Ext (w.alloc (.cells (cmC c qa Q qc).toArray 42)) u := h.ext
      exact h.yieldW rfl (wanted_yes (g := 4) (d' := 9) rfl rfl (h.at_ 4 rfl (pre_of hp 4 rfl))) 11 rfl (by change 11 < 65; decide) rfl _ rfl (run_of_sem rfl (by rw [h.at_ 5 rfl (pre_of hp 5 rfl)]; exact ld_str (cm_cells (Hbox.out.ext hyu) HR.out).2.2.1))
    case o7 =>
      intro f a u h hfi hp hq
      have q11 := h.att 6 rfl (pre_of hp 6 rfl)
      exact h.yieldW rfl (wanted_yes (g := 4) (d' := 9) rfl rfl (h.at_ 4 rfl (pre_of hp 4 rfl))) 12 rfl (by change 12 < 65; decide) rfl _ rfl (by go_simp)
    case o8 =>
      intro f a u h hfi hp hq
      have q12 := h.att 7 rfl (pre_of hp 7 rfl)
      exact h.yieldW rfl (wanted_yes (g := 4) (d' := 9) rfl rfl (h.at_ 4 rfl (pre_of hp 4 rfl))) 13 rfl (by change 13 < 65; decide) rfl _ rfl (by go_simp)
    case o9 =>
      intro f a u h hfi hp hq
      have q9 := h.att 4 rfl (pre_of hp 4 rfl)
      have q13 := h.att 8 rfl (pre_of hp 8 rfl)
      exact h.yieldW rfl (wanted_none rfl) 14 rfl (by change 14 < 65; decide) rfl _ rfl (by go_simp)
    case o10 =>
      intro f a u h hfi hp hq
      have q14 := h.att 9 rfl (pre_of hp 9 rfl)
      exact h.yieldW rfl (wanted_none rfl) 15 rfl (by change 15 < 65; decide) rfl _ rfl (by go_simp)
    case o11 =>
      intro f a u h hfi hp hq
      exact h.yieldW rfl (wanted_yes (g := 10) (d' := 15) rfl rfl (h.at_ 10 rfl (pre_of hp 10 rfl))) 16 rfl (by change 16 < 65; decide) rfl _ rfl (run_of_sem rfl (by rw [(show a.eval (.tmp 1) = .pointer (some ⟨w.heap.size, 0, none⟩) from h.agree.eval (by decide))]; exact f_cm3 _ _))
    case o12 =>
      intro f a u h hfi hp hq
      have hyu : Ext (w.alloc (.cells (cmC c qa Q qc).toArray 42)) u := h.ext
      exact h.yieldW rfl (wanted_yes (g := 10) (d' := 15) rfl rfl (h.at_ 10 rfl (pre_of hp 10 rfl))) 17 rfl (by change 17 < 65; decide) rfl _ rfl (run_of_sem rfl (by rw [h.at_ 11 rfl (pre_of hp 11 rfl)]; exact ld_int (cm_cells (Hbox.out.ext hyu) HR.out).2.2.2))
    case o13 =>
      intro f a u h hfi hp hq
      have q17 := h.att 12 rfl (pre_of hp 12 rfl)
      exact h.yieldW rfl (wanted_yes (g := 10) (d' := 15) rfl rfl (h.at_ 10 rfl (pre_of hp 10 rfl))) 18 rfl (by change 18 < 65; decide) rfl _ rfl (by go_simp)
    case o14 =>
      intro f a u h hfi hp hq
      have q15 := h.att 10 rfl (pre_of hp 10 rfl)
      have q18 := h.att 13 rfl (pre_of hp 13 rfl)
      exact h.yieldW rfl (wanted_none rfl) 19 rfl (by change 19 < 65; decide) rfl _ rfl (by go_simp)
    case o15 =>
      intro f a u h hfi hp hq
      have q19 := h.att 14 rfl (pre_of hp 14 rfl)
      exact h.yieldW rfl (wanted_none rfl) 20 rfl (by change 20 < 65; decide) rfl _ rfl (by go_simp)
    case o16 =>
      intro f a u h hfi hp hq
      exact h.yieldW rfl (wanted_yes (g := 15) (d' := 20) rfl rfl (h.at_ 15 rfl (pre_of hp 15 rfl))) 21 rfl (by change 21 < 65; decide) rfl _ rfl (run_of_sem rfl (by rw [(show a.eval (.tmp 1) = .pointer (some ⟨w.heap.size, 0, none⟩) from h.agree.eval (by decide))]; exact f_cm3 _ _))
    case o17 =>
      intro f a u h hfi hp hq
      have hyu : Ext (w.alloc (.cells (cmC c qa Q qc).toArray 42)) u := h.ext
      exact h.yieldW rfl (wanted_yes (g := 15) (d' := 20) rfl rfl (h.at_ 15 rfl (pre_of hp 15 rfl))) 22 rfl (by change 22 < 65; decide) rfl _ rfl (run_of_sem rfl (by rw [h.at_ 16 rfl (pre_of hp 16 rfl)]; exact ld_int (cm_cells (Hbox.out.ext hyu) HR.out).2.2.2))
    case o18 =>
      intro f a u h hfi hp hq
      have q22 := h.att 17 rfl (pre_of hp 17 rfl)
      exact h.yieldW rfl (wanted_yes (g := 15) (d' := 20) rfl rfl (h.at_ 15 rfl (pre_of hp 15 rfl))) 23 rfl (by change 23 < 65; decide) rfl _ rfl (by go_simp)
    case o19 =>
      intro f a u h hfi hp hq
      have q20 := h.att 15 rfl (pre_of hp 15 rfl)
      have q23 := h.att 18 rfl (pre_of hp 18 rfl)
      exact h.yieldW rfl (wanted_none rfl) 24 rfl (by change 24 < 65; decide) rfl _ rfl (by go_simp)
    case o20 =>
      intro f a u h hfi hp hq
      have q24 := h.att 19 rfl (pre_of hp 19 rfl)
      exact h.yieldW rfl (wanted_none rfl) 25 rfl (by change 25 < 65; decide) rfl _ rfl (by go_simp)
    case o21 =>
      intro f a u h hfi hp hq
      exact h.skip rfl (wanted_not (g := 20) (d' := 25) rfl rfl (h.at_ 20 rfl (pre_of hp 20 rfl)) rfl) 26 rfl (by change 26 < 65; decide) rfl rfl
    case o22 =>
      intro f a u h hfi hp hq
      exact h.skip rfl (wanted_not (g := 20) (d' := 25) rfl rfl (h.at_ 20 rfl (pre_of hp 20 rfl)) rfl) 27 rfl (by change 27 < 65; decide) rfl rfl
    case o23 =>
      intro f a u h hfi hp hq
      exact h.skip rfl (wanted_not (g := 20) (d' := 25) rfl rfl (h.at_ 20 rfl (pre_of hp 20 rfl)) rfl) 28 rfl (by change 28 < 65; decide) rfl rfl
    case o24 =>
      intro f a u h hfi hp hq
      exact h.skip rfl (wanted_not (g := 20) (d' := 25) rfl rfl (h.at_ 20 rfl (pre_of hp 20 rfl)) rfl) 29 rfl (by change 29 < 65; decide) rfl rfl
    case o25 =>
      intro f a u h hfi hp hq
      have q25 := h.att 20 rfl (pre_of hp 20 rfl)
      have q29 := h.att 24 rfl (pre_of hp 24 rfl)
      exact h.yieldW rfl (wanted_none rfl) 30 rfl (by change 30 < 65; decide) rfl _ rfl (by go_simp)
  · intro f a u h hall hfar
    have hag := h.agree.out
    have e30 := h.at_ 25 rfl (hall 25 (by decide))
    have hye := hx0.trans h.ext
    simp only [List.foldl_cons, List.foldl_nil, Act.put, List.setIfInBounds_toArray, List.set_cons_zero, List.set_cons_succ, e30] at hag
    generalize a.eval (.tmp 5) = y5 at hag
    generalize a.eval (.tmp 6) = y6 at hag
    generalize a.eval (.tmp 7) = y7 at hag
    generalize a.eval (.tmp 8) = y8 at hag
    generalize a.eval (.tmp 9) = y9 at hag
    generalize a.eval (.tmp 10) = y10 at hag
    generalize a.eval (.tmp 11) = y11 at hag
    generalize a.eval (.tmp 12) = y12 at hag
    generalize a.eval (.tmp 13) = y13 at hag
    generalize a.eval (.tmp 14) = y14 at hag
    generalize a.eval (.tmp 15) = y15 at hag
    generalize a.eval (.tmp 16) = y16 at hag
    generalize a.eval (.tmp 17) = y17 at hag
    generalize a.eval (.tmp 18) = y18 at hag
    generalize a.eval (.tmp 19) = y19 at hag
    generalize a.eval (.tmp 20) = y20 at hag
    generalize a.eval (.tmp 21) = y21 at hag
    generalize a.eval (.tmp 22) = y22 at hag
    generalize a.eval (.tmp 23) = y23 at hag
    generalize a.eval (.tmp 24) = y24 at hag
    generalize a.eval (.tmp 25) = y25 at hag
    generalize a.eval (.tmp 26) = y26 at hag
    generalize a.eval (.tmp 27) = y27 at hag
    generalize a.eval (.tmp 28) = y28 at hag
    generalize a.eval (.tmp 29) = y29 at hag
    clear h hall hfar e30
    subst hag
    go_wp2
    go_ret
    exact ⟨rfl, hye⟩

set_option maxRecDepth 100000 in
set_option maxHeartbeats 8000000 in
theorem goodCommit_5 (c : Cm) (qa : Option Addr) (Q qc : Nat) (w : World) (h : CmAt w c qa Q qc) (h1 : ¬ (2 : Int) < (Q : Int)) (h2 : ¬ (32 : Int) < (c.note.size : Int)) (h3 : ¬ c.num < 1) (h4 : ¬ 1024 < c.num) (hg : idGood c.root = false) :
    Calls Tryd.prog 66 #[cma c qa Q qc] w fun e w' => e = .returned (.bool false) ∧ Ext w w' := by
  have Hh := Lib.hid h
  have HR := Lib.hid h.hr
  have hn0 := h.n0
  have hn1 := h.n1
  have hsn := h.sn
  have hbq := h.bq
  clear h
  go_enter Tryd.func66, Tryd.ntmps66
  have hbox : Blk (w.alloc (.cells (cmC c qa Q qc).toArray 42)) w.heap.size 42 (cmC c qa Q qc).toArray := Blk.new w _ _
  have hx0 : Ext w (w.alloc (.cells (cmC c qa Q qc).toArray 42)) := (Ext.refl _).alloc _
  have Hbox := Lib.hid hbox
  have HGR := fun w' => idgood_calls c.root w' HR.out
  unfold idv at HGR
  clear hbox
  go_upto_region 1 with (fail)
  rw [hg] at HGR
  refine wp_region_text (RInv [5, 6, 7, 8, 9, 10, 11, 12, 13, 14, 15, 16, 17, 18, 19, 20, 21, 22, 23, 24, 25, 26, 27, 28, 29, 30] _ (w.alloc (.cells (cmC c qa Q qc).toArray 42)) [(0, 5, .pointer (some ⟨w.heap.size, 33, none⟩)), (1, 6, .slice qa Q qc), (2, 7, .int .i64 (Q : Int)), (3, 8, .bool false), (4, 9, .bool false), (5, 10, .pointer (some ⟨w.heap.size, 34, none⟩)), (6, 11, .string c.note), (7, 12, .int .i64 (c.note.size : Int)), (8, 13, .bool false), (9, 14, .bool false), (10, 15, .bool false), (11, 16, .pointer (some ⟨w.heap.size, 35, none⟩)), (12, 17, .int .i64 c.num), (13, 18, .bool false), (14, 19, .bool false), (15, 20, .bool false), (16, 21, .pointer (some ⟨w.heap.size, 35, none⟩)), (17, 22, .int .i64 c.num), (18, 23, .bool false), (19, 24, .bool false), (20, 25, .bool false), (21, 26, .pointer (some ⟨w.heap.size, 0, none⟩)), (22, 27, .agg (bv c.root).toArray), (23, 28, .bool false), (24, 29, .bool true), (25, 30, .bool true)] []) (by kernel_rfl) RInv.start ?_ ?_
  · refine ⟨?o0, ?o1, ?o2, ?o3, ?o4, ?o5, ?o6, ?o7, ?o8, ?o9, ?o10, ?o11, ?o12, ?o13, ?o14, ?o15, ?o16, ?o17, ?o18, ?o19, ?o20, ?o21, ?o22, ?o23, ?o24, ?o25, trivial⟩
    case o0 =>
      intro f a u h hfi hp hq
      exact h.yieldW rfl (wanted_none rfl) 5 rfl (by change 5 < 65; decide) rfl _ rfl (run_of_sem rfl (by rw [(show a.eval (.tmp 1) = .pointer (some ⟨w.heap.size, 0, none⟩) from h.agree.eval (by decide))]; exact f_cm1 _ _))
    case o1 =>
      intro f a u h hfi hp hq
      have hyu : Ext (w.alloc (.cells (cmC c qa Q qc).toArray 42)) u := h.ext
      exact h.yieldW rfl (wanted_none rfl) 6 rfl (by change 6 < 65; decide) rfl _ rfl (run_of_sem rfl (by rw [h.at_ 0 rfl (pre_of hp 0 rfl)]; exact ld_ids (cm_cells (Hbox.out.ext hyu) HR.out).2.1))
    case o2 =>
      intro f a u h hfi hp hq
      have q6 := h.att 1 rfl (pre_of hp 1 rfl)
      exact h.yieldW rfl (wanted_none rfl) 7 rfl (by change 7 < 65; decide) rfl _ rfl (by go_simp)
    case o3 =>
      intro f a u h hfi hp hq
      have q7 := h.att 2 rfl (pre_of hp 2 rfl)
      exact h.yieldW rfl (wanted_none rfl) 8 rfl (by change 8 < 65; decide) rfl _ rfl (by go_simp)
    case o4 =>
      intro f a u h hfi hp hq
      have q8 := h.att 3 rfl (pre_of hp 3 rfl)
      exact h.yieldW rfl (wanted_none rfl) 9 rfl (by change 9 < 65; decide) rfl _ rfl (by go_simp)
    case o5 =>
      intro f a u h hfi hp hq
      exact h.yieldW rfl (wanted_yes (g := 4) (d' := 9) rfl rfl (h.at_ 4 rfl (pre_of hp 4 rfl))) 10 rfl (by change 10 < 65; decide) rfl _ rfl (run_of_sem rfl (by rw [(show a.eval (.tmp 1) = .pointer (some ⟨w.heap.size, 0, none⟩) from h.agree.eval (by decide))]; exact f_cm2 _ _))
    case o6 =>
      intro f a u h hfi hp hq
      have hyu : Ext (w.alloc (.cells (cmC c qa Q qc).toArray 42)) u := h.ext
      exact h.yieldW rfl (wanted_yes (g := 4) (d' := 9) rfl rfl (h.at_ 4 rfl (pre_of hp 4 rfl))) 11 rfl (by change 11 < 65; decide) rfl _ rfl (run_of_sem rfl (by rw [h.at_ 5 rfl (pre_of hp 5 rfl)]; exact ld_str (cm_cells (Hbox.out.ext hyu) HR.out).2.2.1))
    case o7 =>
      intro f a u h hfi hp hq
      have q11 := h.att 6 rfl (pre_of hp 6 rfl)
      exact h.yieldW rfl (wanted_yes (g := 4) (d' := 9) rfl rfl (h.at_ 4 rfl (pre_of hp 4 rfl))) 12 rfl (by change 12 < 65; decide) rfl _ rfl (by go_simp)
    case o8 =>
      intro f a u h hfi hp hq
      have q12 := h.att 7 rfl (pre_of hp 7 rfl)
      exact h.yieldW rfl (wanted_yes (g := 4) (d' := 9) rfl rfl (h.at_ 4 rfl (pre_of hp 4 rfl))) 13 rfl (by change 13 < 65; decide) rfl _ rfl (by go_simp)
    case o9 =>
      intro f a u h hfi hp hq
      have q9 := h.att 4 rfl (pre_of hp 4 rfl)
      have q13 := h.att 8 rfl (pre_of hp 8 rfl)
      exact h.yieldW rfl (wanted_none rfl) 14 rfl (by change 14 < 65; decide) rfl _ rfl (by go_simp)
    case o10 =>
      intro f a u h hfi hp hq
      have q14 := h.att 9 rfl (pre_of hp 9 rfl)
      exact h.yieldW rfl (wanted_none rfl) 15 rfl (by change 15 < 65; decide) rfl _ rfl (by go_simp)
    case o11 =>
      intro f a u h hfi hp hq
      exact h.yieldW rfl (wanted_yes (g := 10) (d' := 15) rfl rfl (h.at_ 10 rfl (pre_of hp 10 rfl))) 16 rfl (by change 16 < 65; decide) rfl _ rfl (run_of_sem rfl (by rw [(show a.eval (.tmp 1) = .pointer (some ⟨w.heap.size, 0, none⟩) from h.agree.eval (by decide))]; exact f_cm3 _ _))
    case o12 =>
      intro f a u h hfi hp hq
      have hyu : Ext (w.alloc (.cells (cmC c qa Q qc).toArray 42)) u := h.ext
      exact h.yieldW rfl (wanted_yes (g := 10) (d' := 15) rfl rfl (h.at_ 10 rfl (pre_of hp 10 rfl))) 17 rfl (by change 17 < 65; decide) rfl _ rfl (run_of_sem rfl (by rw [h.at_ 11 rfl (pre_of hp 11 rfl)]; exact ld_int (cm_cells (Hbox.out.ext hyu) HR.out).2.2.2))
    case o13 =>
      intro f a u h hfi hp hq
      have q17 := h.att 12 rfl (pre_of hp 12 rfl)
      exact h.yieldW rfl (wanted_yes (g := 10) (d' := 15) rfl rfl (h.at_ 10 rfl (pre_of hp 10 rfl))) 18 rfl (by change 18 < 65; decide) rfl _ rfl (by go_simp)
    case o14 =>
      intro f a u h hfi hp hq
      have q15 := h.att 10 rfl (pre_of hp 10 rfl)
      have q18 := h.att 13 rfl (pre_of hp 13 rfl)
      exact h.yieldW rfl (wanted_none rfl) 19 rfl (by change 19 < 65; decide) rfl _ rfl (by go_simp)
    case o15 =>
      intro f a u h hfi hp hq
      have q19 := h.att 14 rfl (pre_of hp 14 rfl)
      exact h.yieldW rfl (wanted_none rfl) 20 rfl (by change 20 < 65; decide) rfl _ rfl (by go_simp)
    case o16 =>
      intro f a u h hfi hp hq
      exact h.yieldW rfl (wanted_yes (g := 15) (d' := 20) rfl rfl (h.at_ 15 rfl (pre_of hp 15 rfl))) 21 rfl (by change 21 < 65; decide) rfl _ rfl (run_of_sem rfl (by rw [(show a.eval (.tmp 1) = .pointer (some ⟨w.heap.size, 0, none⟩) from h.agree.eval (by decide))]; exact f_cm3 _ _))
    case o17 =>
      intro f a u h hfi hp hq
      have hyu : Ext (w.alloc (.cells (cmC c qa Q qc).toArray 42)) u := h.ext
      exact h.yieldW rfl (wanted_yes (g := 15) (d' := 20) rfl rfl (h.at_ 15 rfl (pre_of hp 15 rfl))) 22 rfl (by change 22 < 65; decide) rfl _ rfl (run_of_sem rfl (by rw [h.at_ 16 rfl (pre_of hp 16 rfl)]; exact ld_int (cm_cells (Hbox.out.ext hyu) HR.out).2.2.2))
    case o18 =>
      intro f a u h hfi hp hq
      have q22 := h.att 17 rfl (pre_of hp 17 rfl)
      exact h.yieldW rfl (wanted_yes (g := 15) (d' := 20) rfl rfl (h.at_ 15 rfl (pre_of hp 15 rfl))) 23 rfl (by change 23 < 65; decide) rfl _ rfl (by go_simp)
    case o19 =>
      intro f a u h hfi hp hq
      have q20 := h.att 15 rfl (pre_of hp 15 rfl)
      have q23 := h.att 18 rfl (pre_of hp 18 rfl)
      exact h.yieldW rfl (wanted_none rfl) 24 rfl (by change 24 < 65; decide) rfl _ rfl (by go_simp)
    case o20 =>
      intro f a u h hfi hp hq
      have q24 := h.att 19 rfl (pre_of hp 19 rfl)
      exact h.yieldW rfl (wanted_none rfl) 25 rfl (by change 25 < 65; decide) rfl _ rfl (by go_simp)
    case o21 =>
      intro f a u h hfi hp hq
      exact h.yieldW rfl (wanted_yes (g := 20) (d' := 25) rfl rfl (h.at_ 20 rfl (pre_of hp 20 rfl))) 26 rfl (by change 26 < 65; decide) rfl _ rfl (run_of_sem rfl (by rw [(show a.eval (.tmp 1) = .pointer (some ⟨w.heap.size, 0, none⟩) from h.agree.eval (by decide))]; exact f_cm0 _ _))
    case o22 =>
      intro f a u h hfi hp hq
      have hyu : Ext (w.alloc (.cells (cmC c qa Q qc).toArray 42)) u := h.ext
      exact h.yieldW rfl (wanted_yes (g := 20) (d' := 25) rfl rfl (h.at_ 20 rfl (pre_of hp 20 rfl))) 27 rfl (by change 27 < 65; decide) rfl _ rfl (run_of_sem rfl (by rw [h.at_ 21 rfl (pre_of hp 21 rfl)]; exact ld_id HR.out (cm_cells (Hbox.out.ext hyu) HR.out).1))
    case o23 =>
      intro f a u h hfi hp hq
      exact h.callW rfl (wanted_yes (g := 20) (d' := 25) rfl rfl (h.at_ 20 rfl (pre_of hp 20 rfl))) 28 rfl (by change 28 < 65; decide) rfl _ rfl 93 #[.tmp 27] #[27] _ rfl (by kernel_rfl) (by rw [arr1, h.at_ 22 rfl (pre_of hp 22 rfl)]) (HGR u)
    case o24 =>
      intro f a u h hfi hp hq
      have q28 := h.att 23 rfl (pre_of hp 23 rfl)
      exact h.yieldW rfl (wanted_yes (g := 20) (d' := 25) rfl rfl (h.at_ 20 rfl (pre_of hp 20 rfl))) 29 rfl (by change 29 < 65; decide) rfl _ rfl (by go_simp)
    case o25 =>
      intro f a u h hfi hp hq
      have q25 := h.att 20 rfl (pre_of hp 20 rfl)
      have q29 := h.att 24 rfl (pre_of hp 24 rfl)
      exact h.yieldW rfl (wanted_none rfl) 30 rfl (by change 30 < 65; decide) rfl _ rfl (by go_simp)
  · intro f a u h hall hfar
    have hag := h.agree.out
    have e30 := h.at_ 25 rfl (hall 25 (by decide))
    have hye := hx0.trans h.ext
    simp only [List.foldl_cons, List.foldl_nil, Act.put, List.setIfInBounds_toArray, List.set_cons_zero, List.set_cons_succ, e30] at hag
    generalize a.eval (.tmp 5) = y5 at hag
    generalize a.eval (.tmp 6) = y6 at hag
    generalize a.eval (.tmp 7) = y7 at hag
    generalize a.eval (.tmp 8) = y8 at hag
    generalize a.eval (.tmp 9) = y9 at hag
    generalize a.eval (.tmp 10) = y10 at hag
    generalize a.eval (.tmp 11) = y11 at hag
    generalize a.eval (.tmp 12) = y12 at hag
    generalize a.eval (.tmp 13) = y13 at hag
    generalize a.eval (.tmp 14) = y14 at hag
    generalize a.eval (.tmp 15) = y15 at hag
    generalize a.eval (.tmp 16) = y16 at hag
    generalize a.eval (.tmp 17) = y17 at hag
    generalize a.eval (.tmp 18) = y18 at hag
    generalize a.eval (.tmp 19) = y19 at hag
    generalize a.eval (.tmp 20) = y20 at hag
    generalize a.eval (.tmp 21) = y21 at hag
    generalize a.eval (.tmp 22) = y22 at hag
    generalize a.eval (.tmp 23) = y23 at hag
    generalize a.eval (.tmp 24) = y24 at hag
    generalize a.eval (.tmp 25) = y25 at hag
    generalize a.eval (.tmp 26) = y26 at hag
    generalize a.eval (.tmp 27) = y27 at hag
    generalize a.eval (.tmp 28) = y28 at hag
    generalize a.eval (.tmp 29) = y29 at hag
    clear h hall hfar e30
    subst hag
    go_wp2
    go_ret
    exact ⟨rfl, hye⟩

set_option maxRecDepth 100000 in
set_option maxHeartbeats 8000000 in
theorem goodCommit_ok (c : Cm) (qa : Option Addr) (Q qc : Nat) (w : World) (h : CmAt w c qa Q qc) (h1 : ¬ (2 : Int) < (Q : Int)) (h2 : ¬ (32 : Int) < (c.note.size : Int)) (h3 : ¬ c.num < 1) (h4 : ¬ 1024 < c.num) (hg : idGood c.root = true) :
    Calls Tryd.prog 66 #[cma c qa Q qc] w fun e w' => e = .returned (.bool ((List.range c.parents.length).all (paOk c))) ∧ Ext w w' := by
  have Hh := Lib.hid h
  have HR := Lib.hid h.hr
  have hn0 := h.n0
  have hn1 := h.n1
  have hsn := h.sn
  have hbq := h.bq
  clear h
  go_enter Tryd.func66, Tryd.ntmps66
  have hbox : Blk (w.alloc (.cells (cmC c qa Q qc).toArray 42)) w.heap.size 42 (cmC c qa Q qc).toArray := Blk.new w _ _
  have hx0 : Ext w (w.alloc (.cells (cmC c qa Q qc).toArray 42)) := (Ext.refl _).alloc _
  have Hbox := Lib.hid hbox
  have HGR := fun w' => idgood_calls c.root w' HR.out
  unfold idv at HGR
  clear hbox
  go_upto_region 1 with (fail)
  rw [hg] at HGR
  refine wp_region_text (RInv [5, 6, 7, 8, 9, 10, 11, 12, 13, 14, 15, 16, 17, 18, 19, 20, 21, 22, 23, 24, 25, 26, 27, 28, 29, 30] _ (w.alloc (.cells (cmC c qa Q qc).toArray 42)) [(0, 5, .pointer (some ⟨w.heap.size, 33, none⟩)), (1, 6, .slice qa Q qc), (2, 7, .int .i64 (Q : Int)), (3, 8, .bool false), (4, 9, .bool false), (5, 10, .pointer (some ⟨w.heap.size, 34, none⟩)), (6, 11, .string c.note), (7, 12, .int .i64 (c.note.size : Int)), (8, 13, .bool false), (9, 14, .bool false), (10, 15, .bool false), (11, 16, .pointer (some ⟨w.heap.size, 35, none⟩)), (12, 17, .int .i64 c.num), (13, 18, .bool false), (14, 19, .bool false), (15, 20, .bool false), (16, 21, .pointer (some ⟨w.heap.size, 35, none⟩)), (17, 22, .int .i64 c.num), (18, 23, .bool false), (19, 24, .bool false), (20, 25, .bool false), (21, 26, .pointer (some ⟨w.heap.size, 0, none⟩)), (22, 27, .agg (bv c.root).toArray), (23, 28, .bool true), (24, 29, .bool false), (25, 30, .bool false)] []) (by kernel_rfl) RInv.start ?_ ?_
  · refine ⟨?o0, ?o1, ?o2, ?o3, ?o4, ?o5, ?o6, ?o7, ?o8, ?o9, ?o10, ?o11, ?o12, ?o13, ?o14, ?o15, ?o16, ?o17, ?o18, ?o19, ?o20, ?o21, ?o22, ?o23, ?o24, ?o25, trivial⟩
    case o0 =>
      intro f a u h hfi hp hq
      exact h.yieldW rfl (wanted_none rfl) 5 rfl (by change 5 < 65; decide) rfl _ rfl (run_of_sem rfl (by rw [(show a.eval (.tmp 1) = .pointer (some ⟨w.heap.size, 0, none⟩) from h.agree.eval (by decide))]; exact f_cm1 _ _))
    case o1 =>
      intro f a u h hfi hp hq
      have hyu : Ext (w.alloc (.cells (cmC c qa Q qc).toArray 42)) u := h.ext
      exact h.yieldW rfl (wanted_none rfl) 6 rfl (by change 6 < 65; decide) rfl _ rfl (run_of_sem rfl (by rw [h.at_ 0 rfl (pre_of hp 0 rfl)]; exact ld_ids (cm_cells (Hbox.out.ext hyu) HR.out).2.1))
    case o2 =>
      intro f a u h hfi hp hq
      have q6 := h.att 1 rfl (pre_of hp 1 rfl)
      exact h.yieldW rfl (wanted_none rfl) 7 rfl (by change 7 < 65; decide) rfl _ rfl (by go_simp)
    case o3 =>
      intro f a u h hfi hp hq
      have q7 := h.att 2 rfl (pre_of hp 2 rfl)
      exact h.yieldW rfl (wanted_none rfl) 8 rfl (by change 8 < 65; decide) rfl _ rfl (by go_simp)
    case o4 =>
      intro f a u h hfi hp hq
      have q8 := h.att 3 rfl (pre_of hp 3 rfl)
      exact h.yieldW rfl (wanted_none rfl) 9 rfl (by change 9 < 65; decide) rfl _ rfl (by go_simp)
    case o5 =>
      intro f a u h hfi hp hq
      exact h.yieldW rfl (wanted_yes (g := 4) (d' := 9) rfl rfl (h.at_ 4 rfl (pre_of hp 4 rfl))) 10 rfl (by change 10 < 65; decide) rfl _ rfl (run_of_sem rfl (by rw [(show a.eval (.tmp 1) = .pointer (some ⟨w.heap.size, 0, none⟩) from h.agree.eval (by decide))]; exact f_cm2 _ _))
    case o6 =>
      intro f a u h hfi hp hq
      have hyu : Ext (w.alloc (.cells (cmC c qa Q qc).toArray 42)) u := h.ext
      exact h.yieldW rfl (wanted_yes (g := 4) (d' := 9) rfl rfl (h.at_ 4 rfl (pre_of hp 4 rfl))) 11 rfl (by change 11 < 65; decide) rfl _ rfl (run_of_sem rfl (by rw [h.at_ 5 rfl (pre_of hp 5 rfl)]; exact ld_str (cm_cells (Hbox.out.ext hyu) HR.out).2.2.1))
    case o7 =>
      intro f a u h hfi hp hq
      have q11 := h.att 6 rfl (pre_of hp 6 rfl)
      exact h.yieldW rfl (wanted_yes (g := 4) (d' := 9) rfl rfl (h.at_ 4 rfl (pre_of hp 4 rfl))) 12 rfl (by change 12 < 65; decide) rfl _ rfl (by go_simp)
    case o8 =>
      intro f a u h hfi hp hq
      have q12 := h.att 7 rfl (pre_of hp 7 rfl)
      exact h.yieldW rfl (wanted_yes (g := 4) (d' := 9) rfl rfl (h.at_ 4 rfl (pre_of hp 4 rfl))) 13 rfl (by change 13 < 65; decide) rfl _ rfl (by go_simp)
    case o9 =>
      intro f a u h hfi hp hq
      have q9 := h.att 4 rfl (pre_of hp 4 rfl)
      have q13 := h.att 8 rfl (pre_of hp 8 rfl)
      exact h.yieldW rfl (wanted_none rfl) 14 rfl (by change 14 < 65; decide) rfl _ rfl (by go_simp)
    case o10 =>
      intro f a u h hfi hp hq
      have q14 := h.att 9 rfl (pre_of hp 9 rfl)
      exact h.yieldW rfl (wanted_none rfl) 15 rfl (by change 15 < 65; decide) rfl _ rfl (by go_simp)
    case o11 =>
      intro f a u h hfi hp hq
      exact h.yieldW rfl (wanted_yes (g := 10) (d' := 15) rfl rfl (h.at_ 10 rfl (pre_of hp 10 rfl))) 16 rfl (by change 16 < 65; decide) rfl _ rfl (run_of_sem rfl (by rw [(show a.eval (.tmp 1) = .pointer (some ⟨w.heap.size, 0, none⟩) from h.agree.eval (by decide))]; exact f_cm3 _ _))
    case o12 =>
      intro f a u h hfi hp hq
      have hyu : Ext (w.alloc (.cells (cmC c qa Q qc).toArray 42)) u := h.ext
      exact h.yieldW rfl (wanted_yes (g := 10) (d' := 15) rfl rfl (h.at_ 10 rfl (pre_of hp 10 rfl))) 17 rfl (by change 17 < 65; decide) rfl _ rfl (run_of_sem rfl (by rw [h.at_ 11 rfl (pre_of hp 11 rfl)]; exact ld_int (cm_cells (Hbox.out.ext hyu) HR.out).2.2.2))
    case o13 =>
      intro f a u h hfi hp hq
      have q17 := h.att 12 rfl (pre_of hp 12 rfl)
      exact h.yieldW rfl (wanted_yes (g := 10) (d' := 15) rfl rfl (h.at_ 10 rfl (pre_of hp 10 rfl))) 18 rfl (by change 18 < 65; decide) rfl _ rfl (by go_simp)
    case o14 =>
      intro f a u h hfi hp hq
      have q15 := h.att 10 rfl (pre_of hp 10 rfl)
      have q18 := h.att 13 rfl (pre_of hp 13 rfl)
      exact h.yieldW rfl (wanted_none rfl) 19 rfl (by change 19 < 65; decide) rfl _ rfl (by go_simp)
    case o15 =>
      intro f a u h hfi hp hq
      have q19 := h.att 14 rfl (pre_of hp 14 rfl)
      exact h.yieldW rfl (wanted_none rfl) 20 rfl (by change 20 < 65; decide) rfl _ rfl (by go_simp)
    case o16 =>
      intro f a u h hfi hp hq
      exact h.yieldW rfl (wanted_yes (g := 15) (d' := 20) rfl rfl (h.at_ 15 rfl (pre_of hp 15 rfl))) 21 rfl (by change 21 < 65; decide) rfl _ rfl (run_of_sem rfl (by rw [(show a.eval (.tmp 1) = .pointer (some ⟨w.heap.size, 0, none⟩) from h.agree.eval (by decide))]; exact f_cm3 _ _))
    case o17 =>
      intro f a u h hfi hp hq
      have hyu : Ext (w.alloc (.cells (cmC c qa Q qc).toArray 42)) u := h.ext
      exact h.yieldW rfl (wanted_yes (g := 15) (d' := 20) rfl rfl (h.at_ 15 rfl (pre_of hp 15 rfl))) 22 rfl (by change 22 < 65; decide) rfl _ rfl (run_of_sem rfl (by rw [h.at_ 16 rfl (pre_of hp 16 rfl)]; exact ld_int (cm_cells (Hbox.out.ext hyu) HR.out).2.2.2))
    case o18 =>
      intro f a u h hfi hp hq
      have q22 := h.att 17 rfl (pre_of hp 17 rfl)
      exact h.yieldW rfl (wanted_yes (g := 15) (d' := 20) rfl rfl (h.at_ 15 rfl (pre_of hp 15 rfl))) 23 rfl (by change 23 < 65; decide) rfl _ rfl (by go_simp)
    case o19 =>
      intro f a u h hfi hp hq
      have q20 := h.att 15 rfl (pre_of hp 15 rfl)
      have q23 := h.att 18 rfl (pre_of hp 18 rfl)
      exact h.yieldW rfl (wanted_none rfl) 24 rfl (by change 24 < 65; decide) rfl _ rfl (by go_simp)
    case o20 =>
      intro f a u h hfi hp hq
      have q24 := h.att 19 rfl (pre_of hp 19 rfl)
      exact h.yieldW rfl (wanted_none rfl) 25 rfl (by change 25 < 65; decide) rfl _ rfl (by go_simp)
    case o21 =>
      intro f a u h hfi hp hq
      exact h.yieldW rfl (wanted_yes (g := 20) (d' := 25) rfl rfl (h.at_ 20 rfl (pre_of hp 20 rfl))) 26 rfl (by change 26 < 65; decide) rfl _ rfl (run_of_sem rfl (by rw [(show a.eval (.tmp 1) = .pointer (some ⟨w.heap.size, 0, none⟩) from h.agree.eval (by decide))]; exact f_cm0 _ _))
    case o22 =>
      intro f a u h hfi hp hq
      have hyu : Ext (w.alloc (.cells (cmC c qa Q qc).toArray 42)) u := h.ext
      exact h.yieldW rfl (wanted_yes (g := 20) (d' := 25) rfl rfl (h.at_ 20 rfl (pre_of hp 20 rfl))) 27 rfl (by change 27 < 65; decide) rfl _ rfl (run_of_sem rfl (by rw [h.at_ 21 rfl (pre_of hp 21 rfl)]; exact ld_id HR.out (cm_cells (Hbox.out.ext hyu) HR.out).1))
    case o23 =>
      intro f a u h hfi hp hq
      exact h.callW rfl (wanted_yes (g := 20) (d' := 25) rfl rfl (h.at_ 20 rfl (pre_of hp 20 rfl))) 28 rfl (by change 28 < 65; decide) rfl _ rfl 93 #[.tmp 27] #[27] _ rfl (by kernel_rfl) (by rw [arr1, h.at_ 22 rfl (pre_of hp 22 rfl)]) (HGR u)
    case o24 =>
      intro f a u h hfi hp hq
      have q28 := h.att 23 rfl (pre_of hp 23 rfl)
      exact h.yieldW rfl (wanted_yes (g := 20) (d' := 25) rfl rfl (h.at_ 20 rfl (pre_of hp 20 rfl))) 29 rfl (by change 29 < 65; decide) rfl _ rfl (by go_simp)
    case o25 =>
      intro f a u h hfi hp hq
      have q25 := h.att 20 rfl (pre_of hp 20 rfl)
      have q29 := h.att 24 rfl (pre_of hp 24 rfl)
      exact h.yieldW rfl (wanted_none rfl) 30 rfl (by change 30 < 65; decide) rfl _ rfl (by go_simp)
  · intro f a u h hall hfar
    have hag := h.agree.out
    have e30 := h.at_ 25 rfl (hall 25 (by decide))
    have hye := hx0.trans h.ext
    simp only [List.foldl_cons, List.foldl_nil, Act.put, List.setIfInBounds_toArray, List.set_cons_zero, List.set_cons_succ, e30] at hag
    generalize a.eval (.tmp 5) = y5 at hag
    generalize a.eval (.tmp 6) = y6 at hag
    generalize a.eval (.tmp 7) = y7 at hag
    generalize a.eval (.tmp 8) = y8 at hag
    generalize a.eval (.tmp 9) = y9 at hag
    generalize a.eval (.tmp 10) = y10 at hag
    generalize a.eval (.tmp 11) = y11 at hag
    generalize a.eval (.tmp 12) = y12 at hag
    generalize a.eval (.tmp 13) = y13 at hag
    generalize a.eval (.tmp 14) = y14 at hag
    generalize a.eval (.tmp 15) = y15 at hag
    generalize a.eval (.tmp 16) = y16 at hag
    generalize a.eval (.tmp 17) = y17 at hag
    generalize a.eval (.tmp 18) = y18 at hag
    generalize a.eval (.tmp 19) = y19 at hag
    generalize a.eval (.tmp 20) = y20 at hag
    generalize a.eval (.tmp 21) = y21 at hag
    generalize a.eval (.tmp 22) = y22 at hag
    generalize a.eval (.tmp 23) = y23 at hag
    generalize a.eval (.tmp 24) = y24 at hag
    generalize a.eval (.tmp 25) = y25 at hag
    generalize a.eval (.tmp 26) = y26 at hag
    generalize a.eval (.tmp 27) = y27 at hag
    generalize a.eval (.tmp 28) = y28 at hag
    generalize a.eval (.tmp 29) = y29 at hag
    have Hby := Lib.hid (Hbox.out.ext h.ext)
    clear h hall hfar e30
    subst hag
    clear hg h1 h2 h3 h4 HGR
    obtain ⟨_, b1, _, _⟩ := cm_cells Hby.out HR.out
    go_wp2
    clear b1
    go_loopw [34] (fun i wr => ∃ k : Nat, k ≤ Q ∧ i = .int .i64 k ∧ Aside ((List.range k).all (paOk c) = true) ∧ Ext u wr) (fun i _ => Q - (intOf i).toNat)
    case atStart => exact ⟨0, Nat.zero_le _, rfl, rfl, Ext.refl _⟩
    case round =>
      obtain ⟨k, hk, rfl, hA, hx⟩ := hrel
      by_cases hlt : k < Q
      · have hkl : k < c.parents.length := by rw [Hh.out.hq]; exact hlt
        obtain ⟨x, rfl, _, r2⟩ := id_row ((Hh.out.cq.ext hye).ext hx) hkl
        have hpl : (c.parents[k]).length = 33 := Hh.out.sq _ (List.getElem_mem hkl)
        obtain ⟨p, hp⟩ : ∃ p, p = c.parents[k] := ⟨_, rfl⟩
        rw [← hp] at r2 hpl
        have HP := Lib.hid hp
        have HPL := Lib.hid hpl
        clear hp hpl
        have hlc := r2
        go_wp2_with (first
          | (refine wpList_load_row_ rfl 27 (.tmp 37) rfl (x.add (k * 33)) rfl (bv p) _ hlc Tryd.underlying27 rfl (by rw [id_info, bv_len, HPL.out]) ?_)
          | (refine wpList_store_blk rfl 27 (.tmp 4) (.tmp 38) rfl rfl wr.heap.size (bv p).toArray rfl rfl _ _ (Blk.new wr _ _) (by rw [List.size_toArray, bv_len, HPL.out]; rfl) (by kernel_rfl) (bv_cells _) ?_; intro w3 hb4 hg3; have hx3 : Ext wr w3 := ((Ext.refl _).alloc _).grown_ hg3 (by simp)))
        clear hlc r2
        have hxx := hx.trans hx3
        have hxw := hye.trans hxx
        have HB1 := Lib.hid (Hby.out.ext hxx)
        have hok : paOk c k = (idGood p && (idKind p == idKind c.root && (k == 0 || !(c.parents.getD (k - 1) [] == p)))) := by
          unfold paOk
          rw [paAt_get hkl, ← HP.out]
        have hno : paOk c k = false → ((List.range c.parents.length).all (paOk c)) = false := fun hf => range_bad hkl hf
        have HOK := Lib.hid hok
        have HNO := Lib.hid hno
        have HGP := fun w' => idgood_calls p w' HPL.out
        unfold idv at HGP
        obtain ⟨g4, hg4⟩ : ∃ g, g = wr.heap.size := ⟨_, rfl⟩
        rw [← hg4] at hb4 ⊢
        have HB4 := Lib.hid hb4
        clear hok hno hg3 hx3 hg4 hb4
        cases hgood : idGood p with
        | false =>
          have HF := Lib.hid (HNO.out (by rw [HOK.out, hgood, Bool.false_and]))
          rw [hgood] at HGP
          refine wp_region_ops (RInv [39, 40, 41, 42, 43, 44, 45, 46, 47, 48, 49, 50, 51, 52, 53, 54, 55, 56, 57, 58, 59, 60, 61, 62, 63] _ w3.drew [(0, 39, .agg (bv p).toArray), (1, 40, .bool false), (2, 41, .bool true), (3, 42, .bool true), (4, 43, undef), (5, 44, undef), (6, 45, undef), (7, 46, undef), (8, 47, undef), (9, 48, undef), (10, 49, .bool true), (11, 50, .bool true), (12, 51, undef), (13, 52, undef), (14, 53, undef), (15, 54, undef), (16, 55, undef), (17, 56, undef), (18, 57, undef), (19, 58, undef), (20, 59, undef), (21, 60, undef), (22, 61, undef), (23, 62, undef), (24, 63, .bool true)] []) (by kernel_rfl) (by kernel_rfl) RInv.start ?_ ?_
          · refine ⟨?o0, ?o1, ?o2, ?o3, ?o4, ?o5, ?o6, ?o7, ?o8, ?o9, ?o10, ?o11, ?o12, ?o13, ?o14, ?o15, ?o16, ?o17, ?o18, ?o19, ?o20, ?o21, ?o22, ?o23, ?o24, trivial⟩
            case o0 =>
              intro f a u h hfi hp hq
              have hyu : Ext w3 u := ((Ext.refl w3).drew).trans h.ext
              exact h.yieldW rfl (wanted_none rfl) 39 rfl (by change 39 < 65; decide) rfl _ rfl (run_of_sem rfl (by rw [(show a.eval (.tmp 4) = .pointer (some ⟨g4, 0, none⟩) from h.agree.eval (by decide))]; exact run_load_blk (HB4.out.ext hyu) Tryd.underlying27 rfl (by rw [List.size_toArray, bv_len, HPL.out]; exact id_info)))
            case o1 =>
              intro f a u h hfi hp hq
              exact h.callW rfl (wanted_none rfl) 40 rfl (by change 40 < 65; decide) rfl _ rfl 93 #[.tmp 39] #[27] _ rfl (by kernel_rfl) (by rw [arr1, h.at_ 0 rfl (pre_of hp 0 rfl)]) (HGP u)
            case o2 =>
              intro f a u h hfi hp hq
              have q40 := h.att 1 rfl (pre_of hp 1 rfl)
              exact h.yieldW rfl (wanted_none rfl) 41 rfl (by change 41 < 65; decide) rfl _ rfl (by go_simp)
            case o3 =>
              intro f a u h hfi hp hq
              have q41 := h.att 2 rfl (pre_of hp 2 rfl)
              exact h.yieldW rfl (wanted_none rfl) 42 rfl (by change 42 < 65; decide) rfl _ rfl (by go_simp)
            case o4 =>
              intro f a u h hfi hp hq
              exact h.skip rfl (wanted_not (g := 3) (d' := 42) rfl rfl (h.at_ 3 rfl (pre_of hp 3 rfl)) rfl) 43 rfl (by change 43 < 65; decide) rfl rfl
            case o5 =>
              intro f a u h hfi hp hq
              exact h.skip rfl (wanted_not (g := 3) (d' := 42) rfl rfl (h.at_ 3 rfl (pre_of hp 3 rfl)) rfl) 44 rfl (by change 44 < 65; decide) rfl rfl
            case o6 =>
              intro f a u h hfi hp hq
              exact h.skip rfl (wanted_not (g := 3) (d' := 42) rfl rfl (h.at_ 3 rfl (pre_of hp 3 rfl)) rfl) 45 rfl (by change 45 < 65; decide) rfl rfl
            case o7 =>
              intro f a u h hfi hp hq
              exact h.skip rfl (wanted_not (g := 3) (d' := 42) rfl rfl (h.at_ 3 rfl (pre_of hp 3 rfl)) rfl) 46 rfl (by change 46 < 65; decide) rfl rfl
            case o8 =>
              intro f a u h hfi hp hq
              exact h.skip rfl (wanted_not (g := 3) (d' := 42) rfl rfl (h.at_ 3 rfl (pre_of hp 3 rfl)) rfl) 47 rfl (by change 47 < 65; decide) rfl rfl
            case o9 =>
              intro f a u h hfi hp hq
              exact h.skip rfl (wanted_not (g := 3) (d' := 42) rfl rfl (h.at_ 3 rfl (pre_of hp 3 rfl)) rfl) 48 rfl (by change 48 < 65; decide) rfl rfl
            case o10 =>
              intro f a u h hfi hp hq
              have q42 := h.att 3 rfl (pre_of hp 3 rfl)
              have q48 := h.att 9 rfl (pre_of hp 9 rfl)
              exact h.yieldW rfl (wanted_none rfl) 49 rfl (by change 49 < 65; decide) rfl _ rfl (by go_simp)
            case o11 =>
              intro f a u h hfi hp hq
              have q49 := h.att 10 rfl (pre_of hp 10 rfl)
              exact h.yieldW rfl (wanted_none rfl) 50 rfl (by change 50 < 65; decide) rfl _ rfl (by go_simp)
            case o12 =>
              intro f a u h hfi hp hq
              exact h.skip rfl (wanted_not (g := 11) (d' := 50) rfl rfl (h.at_ 11 rfl (pre_of hp 11 rfl)) rfl) 51 rfl (by change 51 < 65; decide) rfl rfl
            case o13 =>
              intro f a u h hfi hp hq
              exact h.skip rfl (wanted_not (g := 11) (d' := 50) rfl rfl (h.at_ 11 rfl (pre_of hp 11 rfl)) rfl) 52 rfl (by change 52 < 65; decide) rfl rfl
            case o14 =>
              intro f a u h hfi hp hq
              exact h.skip rfl (wanted_not (g := 11) (d' := 50) rfl rfl (h.at_ 11 rfl (pre_of hp 11 rfl)) rfl) 53 rfl (by change 53 < 65; decide) rfl rfl
            case o15 =>
              intro f a u h hfi hp hq
              exact h.skip rfl (wanted_undef (g := 14) (d' := 53) rfl rfl (h.at_ 14 rfl (pre_of hp 14 rfl))) 54 rfl (by change 54 < 65; decide) rfl rfl
            case o16 =>
              intro f a u h hfi hp hq
              exact h.skip rfl (wanted_undef (g := 14) (d' := 53) rfl rfl (h.at_ 14 rfl (pre_of hp 14 rfl))) 55 rfl (by change 55 < 65; decide) rfl rfl
            case o17 =>
              intro f a u h hfi hp hq
              exact h.skip rfl (wanted_undef (g := 14) (d' := 53) rfl rfl (h.at_ 14 rfl (pre_of hp 14 rfl))) 56 rfl (by change 56 < 65; decide) rfl rfl
            case o18 =>
              intro f a u h hfi hp hq
              exact h.skip rfl (wanted_undef (g := 14) (d' := 53) rfl rfl (h.at_ 14 rfl (pre_of hp 14 rfl))) 57 rfl (by change 57 < 65; decide) rfl rfl
            case o19 =>
              intro f a u h hfi hp hq
              exact h.skip rfl (wanted_undef (g := 14) (d' := 53) rfl rfl (h.at_ 14 rfl (pre_of hp 14 rfl))) 58 rfl (by change 58 < 65; decide) rfl rfl
            case o20 =>
              intro f a u h hfi hp hq
              exact h.skip rfl (wanted_undef (g := 14) (d' := 53) rfl rfl (h.at_ 14 rfl (pre_of hp 14 rfl))) 59 rfl (by change 59 < 65; decide) rfl rfl
            case o21 =>
              intro f a u h hfi hp hq
              exact h.skip rfl (wanted_undef (g := 14) (d' := 53) rfl rfl (h.at_ 14 rfl (pre_of hp 14 rfl))) 60 rfl (by change 60 < 65; decide) rfl rfl
            case o22 =>
              intro f a u h hfi hp hq
              exact h.skip rfl (wanted_undef (g := 14) (d' := 53) rfl rfl (h.at_ 14 rfl (pre_of hp 14 rfl))) 61 rfl (by change 61 < 65; decide) rfl rfl
            case o23 =>
              intro f a u h hfi hp hq
              exact h.skip rfl (wanted_not (g := 11) (d' := 50) rfl rfl (h.at_ 11 rfl (pre_of hp 11 rfl)) rfl) 62 rfl (by change 62 < 65; decide) rfl rfl
            case o24 =>
              intro f a u h hfi hp hq
              have q50 := h.att 11 rfl (pre_of hp 11 rfl)
              have q62 := h.att 23 rfl (pre_of hp 23 rfl)
              exact h.yieldW rfl (wanted_none rfl) 63 rfl (by change 63 < 65; decide) rfl _ rfl (by go_simp)
          · intro f a u h hall hfar
            have hag := h.agree.out
            have e63 := h.at_ 24 rfl (hall 24 (by decide))
            have hye := ((Ext.refl w3).drew).trans h.ext
            simp only [List.foldl_cons, List.foldl_nil, Act.put, List.setIfInBounds_toArray, List.set_cons_zero, List.set_cons_succ, e63] at hag
            generalize a.eval (.tmp 39) = y39 at hag
            generalize a.eval (.tmp 40) = y40 at hag
            generalize a.eval (.tmp 41) = y41 at hag
            generalize a.eval (.tmp 42) = y42 at hag
            generalize a.eval (.tmp 43) = y43 at hag
            generalize a.eval (.tmp 44) = y44 at hag
            generalize a.eval (.tmp 45) = y45 at hag
            generalize a.eval (.tmp 46) = y46 at hag
            generalize a.eval (.tmp 47) = y47 at hag
            generalize a.eval (.tmp 48) = y48 at hag
            generalize a.eval (.tmp 49) = y49 at hag
            generalize a.eval (.tmp 50) = y50 at hag
            generalize a.eval (.tmp 51) = y51 at hag
            generalize a.eval (.tmp 52) = y52 at hag
            generalize a.eval (.tmp 53) = y53 at hag
            generalize a.eval (.tmp 54) = y54 at hag
            generalize a.eval (.tmp 55) = y55 at hag
            generalize a.eval (.tmp 56) = y56 at hag
            generalize a.eval (.tmp 57) = y57 at hag
            generalize a.eval (.tmp 58) = y58 at hag
            generalize a.eval (.tmp 59) = y59 at hag
            generalize a.eval (.tmp 60) = y60 at hag
            generalize a.eval (.tmp 61) = y61 at hag
            generalize a.eval (.tmp 62) = y62 at hag
            clear h hall hfar e63
            subst hag
            go_wp2
            go_ret
            exact ⟨ret_bool HF.out.symm, hxw.trans hye⟩
        | true =>
          rw [hgood] at HGP HOK
          have hkb : (((idKind p).toNat : Int) == ((idKind c.root).toNat : Int)) = (idKind p == idKind c.root) := by
            rw [Bool.eq_iff_iff]
            simp only [beq_iff_eq]
            exact ⟨fun e => UInt8.toNat_inj.1 (by omega), fun e => by rw [e]⟩
          cases hkk : idKind p == idKind c.root with
          | false =>
            rw [hkk] at hkb
            have hkn : (((idKind p).toNat : Int) != ((idKind c.root).toNat : Int)) = true := by unfold bne; rw [hkb]; rfl
            have HF := Lib.hid (HNO.out (by rw [HOK.out, hkk, Bool.false_and, Bool.and_false]))
            refine wp_region_ops (RInv [39, 40, 41, 42, 43, 44, 45, 46, 47, 48, 49, 50, 51, 52, 53, 54, 55, 56, 57, 58, 59, 60, 61, 62, 63] _ w3.drew [(0, 39, .agg (bv p).toArray), (1, 40, .bool true), (2, 41, .bool false), (3, 42, .bool false), (4, 43, .pointer (some ⟨g4, 0, none⟩)), (5, 44, .int .u8 ((idKind p).toNat : Int)), (6, 45, .pointer (some ⟨w.heap.size, 0, none⟩)), (7, 46, .pointer (some ⟨w.heap.size, 0, none⟩)), (8, 47, .int .u8 ((idKind c.root).toNat : Int)), (9, 48, .bool true), (10, 49, .bool true), (11, 50, .bool true), (12, 51, undef), (13, 52, undef), (14, 53, undef), (15, 54, undef), (16, 55, undef), (17, 56, undef), (18, 57, undef), (19, 58, undef), (20, 59, undef), (21, 60, undef), (22, 61, undef), (23, 62, undef), (24, 63, .bool true)] []) (by kernel_rfl) (by kernel_rfl) RInv.start ?_ ?_
            · refine ⟨?o0, ?o1, ?o2, ?o3, ?o4, ?o5, ?o6, ?o7, ?o8, ?o9, ?o10, ?o11, ?o12, ?o13, ?o14, ?o15, ?o16, ?o17, ?o18, ?o19, ?o20, ?o21, ?o22, ?o23, ?o24, trivial⟩
              case o0 =>
                intro f a u h hfi hp hq
                have hyu : Ext w3 u := ((Ext.refl w3).drew).trans h.ext
                exact h.yieldW rfl (wanted_none rfl) 39 rfl (by change 39 < 65; decide) rfl _ rfl (run_of_sem rfl (by rw [(show a.eval (.tmp 4) = .pointer (some ⟨g4, 0, none⟩) from h.agree.eval (by decide))]; exact run_load_blk (HB4.out.ext hyu) Tryd.underlying27 rfl (by rw [List.size_toArray, bv_len, HPL.out]; exact id_info)))
              case o1 =>
                intro f a u h hfi hp hq
                exact h.callW rfl (wanted_none rfl) 40 rfl (by change 40 < 65; decide) rfl _ rfl 93 #[.tmp 39] #[27] _ rfl (by kernel_rfl) (by rw [arr1, h.at_ 0 rfl (pre_of hp 0 rfl)]) (HGP u)
              case o2 =>
                intro f a u h hfi hp hq
                have q40 := h.att 1 rfl (pre_of hp 1 rfl)
                exact h.yieldW rfl (wanted_none rfl) 41 rfl (by change 41 < 65; decide) rfl _ rfl (by go_simp)
              case o3 =>
                intro f a u h hfi hp hq
                have q41 := h.att 2 rfl (pre_of hp 2 rfl)
                exact h.yieldW rfl (wanted_none rfl) 42 rfl (by change 42 < 65; decide) rfl _ rfl (by go_simp)
              case o4 =>
                intro f a u h hfi hp hq
                exact h.yieldW rfl (wanted_yes (g := 3) (d' := 42) rfl rfl (h.at_ 3 rfl (pre_of hp 3 rfl))) 43 rfl (by change 43 < 65; decide) rfl _ rfl (run_of_sem rfl (by rw [(show a.eval (.tmp 4) = .pointer (some ⟨g4, 0, none⟩) from h.agree.eval (by decide))]; exact f_id0 _ _))
              case o5 =>
                intro f a u h hfi hp hq
                have hyu : Ext w3 u := ((Ext.refl w3).drew).trans h.ext
                exact h.yieldW rfl (wanted_yes (g := 3) (d' := 42) rfl rfl (h.at_ 3 rfl (pre_of hp 3 rfl))) 44 rfl (by change 44 < 65; decide) rfl _ rfl (run_of_sem rfl (by rw [h.at_ 4 rfl (pre_of hp 4 rfl)]; exact ld_u8 (Cells.head (id_box (HB4.out.ext hyu)) (by rw [HPL.out]; decide))))
              case o6 =>
                intro f a u h hfi hp hq
                exact h.yieldW rfl (wanted_yes (g := 3) (d' := 42) rfl rfl (h.at_ 3 rfl (pre_of hp 3 rfl))) 45 rfl (by change 45 < 65; decide) rfl _ rfl (run_of_sem rfl (by rw [(show a.eval (.tmp 1) = .pointer (some ⟨w.heap.size, 0, none⟩) from h.agree.eval (by decide))]; exact f_cm0 _ _))
              case o7 =>
                intro f a u h hfi hp hq
                exact h.yieldW rfl (wanted_yes (g := 3) (d' := 42) rfl rfl (h.at_ 3 rfl (pre_of hp 3 rfl))) 46 rfl (by change 46 < 65; decide) rfl _ rfl (run_of_sem rfl (by rw [h.at_ 6 rfl (pre_of hp 6 rfl)]; exact f_id0 _ _))
              case o8 =>
                intro f a u h hfi hp hq
                have hyu : Ext w3 u := ((Ext.refl w3).drew).trans h.ext
                exact h.yieldW rfl (wanted_yes (g := 3) (d' := 42) rfl rfl (h.at_ 3 rfl (pre_of hp 3 rfl))) 47 rfl (by change 47 < 65; decide) rfl _ rfl (run_of_sem rfl (by rw [h.at_ 7 rfl (pre_of hp 7 rfl)]; exact ld_u8 (Cells.head (cm_cells (HB1.out.ext hyu) HR.out).1 (by rw [HR.out]; decide))))
              case o9 =>
                intro f a u h hfi hp hq
                have q44 := h.att 5 rfl (pre_of hp 5 rfl)
                have q47 := h.att 8 rfl (pre_of hp 8 rfl)
                exact h.yieldW rfl (wanted_yes (g := 3) (d' := 42) rfl rfl (h.at_ 3 rfl (pre_of hp 3 rfl))) 48 rfl (by change 48 < 65; decide) rfl _ rfl (by go_simp)
              case o10 =>
                intro f a u h hfi hp hq
                have q42 := h.att 3 rfl (pre_of hp 3 rfl)
                have q48 := h.att 9 rfl (pre_of hp 9 rfl)
                exact h.yieldW rfl (wanted_none rfl) 49 rfl (by change 49 < 65; decide) rfl _ rfl (by go_simp)
              case o11 =>
                intro f a u h hfi hp hq
                have q49 := h.att 10 rfl (pre_of hp 10 rfl)
                exact h.yieldW rfl (wanted_none rfl) 50 rfl (by change 50 < 65; decide) rfl _ rfl (by go_simp)
              case o12 =>
                intro f a u h hfi hp hq
                exact h.skip rfl (wanted_not (g := 11) (d' := 50) rfl rfl (h.at_ 11 rfl (pre_of hp 11 rfl)) rfl) 51 rfl (by change 51 < 65; decide) rfl rfl
              case o13 =>
                intro f a u h hfi hp hq
                exact h.skip rfl (wanted_not (g := 11) (d' := 50) rfl rfl (h.at_ 11 rfl (pre_of hp 11 rfl)) rfl) 52 rfl (by change 52 < 65; decide) rfl rfl
              case o14 =>
                intro f a u h hfi hp hq
                exact h.skip rfl (wanted_not (g := 11) (d' := 50) rfl rfl (h.at_ 11 rfl (pre_of hp 11 rfl)) rfl) 53 rfl (by change 53 < 65; decide) rfl rfl
              case o15 =>
                intro f a u h hfi hp hq
                exact h.skip rfl (wanted_undef (g := 14) (d' := 53) rfl rfl (h.at_ 14 rfl (pre_of hp 14 rfl))) 54 rfl (by change 54 < 65; decide) rfl rfl
              case o16 =>
                intro f a u h hfi hp hq
                exact h.skip rfl (wanted_undef (g := 14) (d' := 53) rfl rfl (h.at_ 14 rfl (pre_of hp 14 rfl))) 55 rfl (by change 55 < 65; decide) rfl rfl
              case o17 =>
                intro f a u h hfi hp hq
                exact h.skip rfl (wanted_undef (g := 14) (d' := 53) rfl rfl (h.at_ 14 rfl (pre_of hp 14 rfl))) 56 rfl (by change 56 < 65; decide) rfl rfl
              case o18 =>
                intro f a u h hfi hp hq
                exact h.skip rfl (wanted_undef (g := 14) (d' := 53) rfl rfl (h.at_ 14 rfl (pre_of hp 14 rfl))) 57 rfl (by change 57 < 65; decide) rfl rfl
              case o19 =>
                intro f a u h hfi hp hq
                exact h.skip rfl (wanted_undef (g := 14) (d' := 53) rfl rfl (h.at_ 14 rfl (pre_of hp 14 rfl))) 58 rfl (by change 58 < 65; decide) rfl rfl
              case o20 =>
                intro f a u h hfi hp hq
                exact h.skip rfl (wanted_undef (g := 14) (d' := 53) rfl rfl (h.at_ 14 rfl (pre_of hp 14 rfl))) 59 rfl (by change 59 < 65; decide) rfl rfl
              case o21 =>
                intro f a u h hfi hp hq
                exact h.skip rfl (wanted_undef (g := 14) (d' := 53) rfl rfl (h.at_ 14 rfl (pre_of hp 14 rfl))) 60 rfl (by change 60 < 65; decide) rfl rfl
              case o22 =>
                intro f a u h hfi hp hq
                exact h.skip rfl (wanted_undef (g := 14) (d' := 53) rfl rfl (h.at_ 14 rfl (pre_of hp 14 rfl))) 61 rfl (by change 61 < 65; decide) rfl rfl
              case o23 =>
                intro f a u h hfi hp hq
                exact h.skip rfl (wanted_not (g := 11) (d' := 50) rfl rfl (h.at_ 11 rfl (pre_of hp 11 rfl)) rfl) 62 rfl (by change 62 < 65; decide) rfl rfl
              case o24 =>
                intro f a u h hfi hp hq
                have q50 := h.att 11 rfl (pre_of hp 11 rfl)
                have q62 := h.att 23 rfl (pre_of hp 23 rfl)
                exact h.yieldW rfl (wanted_none rfl) 63 rfl (by change 63 < 65; decide) rfl _ rfl (by go_simp)
            · intro f a u h hall hfar
              have hag := h.agree.out
              have e63 := h.at_ 24 rfl (hall 24 (by decide))
              have hye := ((Ext.refl w3).drew).trans h.ext
              simp only [List.foldl_cons, List.foldl_nil, Act.put, List.setIfInBounds_toArray, List.set_cons_zero, List.set_cons_succ, e63] at hag
              generalize a.eval (.tmp 39) = y39 at hag
              generalize a.eval (.tmp 40) = y40 at hag
              generalize a.eval (.tmp 41) = y41 at hag
              generalize a.eval (.tmp 42) = y42 at hag
              generalize a.eval (.tmp 43) = y43 at hag
              generalize a.eval (.tmp 44) = y44 at hag
              generalize a.eval (.tmp 45) = y45 at hag
              generalize a.eval (.tmp 46) = y46 at hag
              generalize a.eval (.tmp 47) = y47 at hag
              generalize a.eval (.tmp 48) = y48 at hag
              generalize a.eval (.tmp 49) = y49 at hag
              generalize a.eval (.tmp 50) = y50 at hag
              generalize a.eval (.tmp 51) = y51 at hag
              generalize a.eval (.tmp 52) = y52 at hag
              generalize a.eval (.tmp 53) = y53 at hag
              generalize a.eval (.tmp 54) = y54 at hag
              generalize a.eval (.tmp 55) = y55 at hag
              generalize a.eval (.tmp 56) = y56 at hag
              generalize a.eval (.tmp 57) = y57 at hag
              generalize a.eval (.tmp 58) = y58 at hag
              generalize a.eval (.tmp 59) = y59 at hag
              generalize a.eval (.tmp 60) = y60 at hag
              generalize a.eval (.tmp 61) = y61 at hag
              generalize a.eval (.tmp 62) = y62 at hag
              clear h hall hfar e63
              subst hag
              go_wp2
              go_ret
              exact ⟨ret_bool HF.out.symm, hxw.trans hye⟩
          | true =>
            rw [hkk] at hkb HOK
            have hkn : (((idKind p).toNat : Int) != ((idKind c.root).toNat : Int)) = false := by unfold bne; rw [hkb]; rfl
            by_cases hpos : 0 < k
            · have hi1 : (0 : Int) < (k : Int) := by omega
              obtain ⟨j, hj⟩ : ∃ j, j = k - 1 := ⟨_, rfl⟩
              have hjk : j < Q := by omega
              have e1 : (k : Int) - 1 = (j : Int) := by omega
              have e2 : IntKind.i64.wrap (j : Int) = (j : Int) := by rw [IntKind.wrap_i64]; omega
              have hjl : j < c.parents.length := by rw [Hh.out.hq]; exact hjk
              obtain ⟨y, hy, rp, _⟩ := id_row (Hh.out.cq.ext hxw) hjl
              cases hy
              have eq := paAt_get hjl
              have hpjl : (c.parents[j]).length = 33 := Hh.out.sq _ (List.getElem_mem hjl)
              obtain ⟨pj, hpj⟩ : ∃ pj, pj = c.parents[j] := ⟨_, rfl⟩
              rw [← hpj] at rp eq hpjl
              rw [← hj, eq, show (k == 0) = false from by rw [beq_eq_false_iff_ne]; omega] at HOK
              have HRJ := Lib.hid rp
              have HPJL := Lib.hid hpjl
              have HEQ := fun w' => id_equal pj p HPJL.out HPL.out w'
              clear hpj eq rp hj hpjl
              cases hb : pj == p with
              | true =>
                rw [hb] at HEQ HOK
                have HF := Lib.hid (HNO.out HOK.out)
                refine wp_region_ops (RInv [39, 40, 41, 42, 43, 44, 45, 46, 47, 48, 49, 50, 51, 52, 53, 54, 55, 56, 57, 58, 59, 60, 61, 62, 63] _ w3.drew [(0, 39, .agg (bv p).toArray), (1, 40, .bool true), (2, 41, .bool false), (3, 42, .bool false), (4, 43, .pointer (some ⟨g4, 0, none⟩)), (5, 44, .int .u8 ((idKind p).toNat : Int)), (6, 45, .pointer (some ⟨w.heap.size, 0, none⟩)), (7, 46, .pointer (some ⟨w.heap.size, 0, none⟩)), (8, 47, .int .u8 ((idKind c.root).toNat : Int)), (9, 48, .bool false), (10, 49, .bool false), (11, 50, .bool false), (12, 51, .int .i64 (k : Int)), (13, 52, .bool true), (14, 53, .bool true), (15, 54, .pointer (some ⟨w.heap.size, 33, none⟩)), (16, 55, .slice (some x) Q qc), (17, 56, .int .i64 (k : Int)), (18, 57, .int .i64 (j : Int)), (19, 58, .pointer (some (x.add (j * 33)))), (20, 59, .agg (bv pj).toArray), (21, 60, .agg (bv p).toArray), (22, 61, .bool true), (23, 62, .bool true), (24, 63, .bool true)] []) (by kernel_rfl) (by kernel_rfl) RInv.start ?_ ?_
                · refine ⟨?o0, ?o1, ?o2, ?o3, ?o4, ?o5, ?o6, ?o7, ?o8, ?o9, ?o10, ?o11, ?o12, ?o13, ?o14, ?o15, ?o16, ?o17, ?o18, ?o19, ?o20, ?o21, ?o22, ?o23, ?o24, trivial⟩
                  case o0 =>
                    intro f a u h hfi hp hq
                    have hyu : Ext w3 u := ((Ext.refl w3).drew).trans h.ext
                    exact h.yieldW rfl (wanted_none rfl) 39 rfl (by change 39 < 65; decide) rfl _ rfl (run_of_sem rfl (by rw [(show a.eval (.tmp 4) = .pointer (some ⟨g4, 0, none⟩) from h.agree.eval (by decide))]; exact run_load_blk (HB4.out.ext hyu) Tryd.underlying27 rfl (by rw [List.size_toArray, bv_len, HPL.out]; exact id_info)))
                  case o1 =>
                    intro f a u h hfi hp hq
                    exact h.callW rfl (wanted_none rfl) 40 rfl (by change 40 < 65; decide) rfl _ rfl 93 #[.tmp 39] #[27] _ rfl (by kernel_rfl) (by rw [arr1, h.at_ 0 rfl (pre_of hp 0 rfl)]) (HGP u)
                  case o2 =>
                    intro f a u h hfi hp hq
                    have q40 := h.att 1 rfl (pre_of hp 1 rfl)
                    exact h.yieldW rfl (wanted_none rfl) 41 rfl (by change 41 < 65; decide) rfl _ rfl (by go_simp)
                  case o3 =>
                    intro f a u h hfi hp hq
                    have q41 := h.att 2 rfl (pre_of hp 2 rfl)
                    exact h.yieldW rfl (wanted_none rfl) 42 rfl (by change 42 < 65; decide) rfl _ rfl (by go_simp)
                  case o4 =>
                    intro f a u h hfi hp hq
                    exact h.yieldW rfl (wanted_yes (g := 3) (d' := 42) rfl rfl (h.at_ 3 rfl (pre_of hp 3 rfl))) 43 rfl (by change 43 < 65; decide) rfl _ rfl (run_of_sem rfl (by rw [(show a.eval (.tmp 4) = .pointer (some ⟨g4, 0, none⟩) from h.agree.eval (by decide))]; exact f_id0 _ _))
                  case o5 =>
                    intro f a u h hfi hp hq
                    have hyu : Ext w3 u := ((Ext.refl w3).drew).trans h.ext
                    exact h.yieldW rfl (wanted_yes (g := 3) (d' := 42) rfl rfl (h.at_ 3 rfl (pre_of hp 3 rfl))) 44 rfl (by change 44 < 65; decide) rfl _ rfl (run_of_sem rfl (by rw [h.at_ 4 rfl (pre_of hp 4 rfl)]; exact ld_u8 (Cells.head (id_box (HB4.out.ext hyu)) (by rw [HPL.out]; decide))))
                  case o6 =>
                    intro f a u h hfi hp hq
                    exact h.yieldW rfl (wanted_yes (g := 3) (d' := 42) rfl rfl (h.at_ 3 rfl (pre_of hp 3 rfl))) 45 rfl (by change 45 < 65; decide) rfl _ rfl (run_of_sem rfl (by rw [(show a.eval (.tmp 1) = .pointer (some ⟨w.heap.size, 0, none⟩) from h.agree.eval (by decide))]; exact f_cm0 _ _))
                  case o7 =>
                    intro f a u h hfi hp hq
                    exact h.yieldW rfl (wanted_yes (g := 3) (d' := 42) rfl rfl (h.at_ 3 rfl (pre_of hp 3 rfl))) 46 rfl (by change 46 < 65; decide) rfl _ rfl (run_of_sem rfl (by rw [h.at_ 6 rfl (pre_of hp 6 rfl)]; exact f_id0 _ _))
                  case o8 =>
                    intro f a u h hfi hp hq
                    have hyu : Ext w3 u := ((Ext.refl w3).drew).trans h.ext
                    exact h.yieldW rfl (wanted_yes (g := 3) (d' := 42) rfl rfl (h.at_ 3 rfl (pre_of hp 3 rfl))) 47 rfl (by change 47 < 65; decide) rfl _ rfl (run_of_sem rfl (by rw [h.at_ 7 rfl (pre_of hp 7 rfl)]; exact ld_u8 (Cells.head (cm_cells (HB1.out.ext hyu) HR.out).1 (by rw [HR.out]; decide))))
                  case o9 =>
                    intro f a u h hfi hp hq
                    have q44 := h.att 5 rfl (pre_of hp 5 rfl)
                    have q47 := h.att 8 rfl (pre_of hp 8 rfl)
                    exact h.yieldW rfl (wanted_yes (g := 3) (d' := 42) rfl rfl (h.at_ 3 rfl (pre_of hp 3 rfl))) 48 rfl (by change 48 < 65; decide) rfl _ rfl (by go_simp)
                  case o10 =>
                    intro f a u h hfi hp hq
                    have q42 := h.att 3 rfl (pre_of hp 3 rfl)
                    have q48 := h.att 9 rfl (pre_of hp 9 rfl)
                    exact h.yieldW rfl (wanted_none rfl) 49 rfl (by change 49 < 65; decide) rfl _ rfl (by go_simp)
                  case o11 =>
                    intro f a u h hfi hp hq
                    have q49 := h.att 10 rfl (pre_of hp 10 rfl)
                    exact h.yieldW rfl (wanted_none rfl) 50 rfl (by change 50 < 65; decide) rfl _ rfl (by go_simp)
                  case o12 =>
                    intro f a u h hfi hp hq
                    have q3 : a.tmps[3]?.getD undef = .int .i64 (k : Int) := h.agree.att (by decide)
                    exact h.yieldW rfl (wanted_yes (g := 11) (d' := 50) rfl rfl (h.at_ 11 rfl (pre_of hp 11 rfl))) 51 rfl (by change 51 < 65; decide) rfl _ rfl (by go_simp)
                  case o13 =>
                    intro f a u h hfi hp hq
                    have q51 := h.att 12 rfl (pre_of hp 12 rfl)
                    exact h.yieldW rfl (wanted_yes (g := 11) (d' := 50) rfl rfl (h.at_ 11 rfl (pre_of hp 11 rfl))) 52 rfl (by change 52 < 65; decide) rfl _ rfl (by go_simp)
                  case o14 =>
                    intro f a u h hfi hp hq
                    have q52 := h.att 13 rfl (pre_of hp 13 rfl)
                    exact h.yieldW rfl (wanted_yes (g := 11) (d' := 50) rfl rfl (h.at_ 11 rfl (pre_of hp 11 rfl))) 53 rfl (by change 53 < 65; decide) rfl _ rfl (by go_simp)
                  case o15 =>
                    intro f a u h hfi hp hq
                    exact h.yieldW rfl (wanted_yes (g := 14) (d' := 53) rfl rfl (h.at_ 14 rfl (pre_of hp 14 rfl))) 54 rfl (by change 54 < 65; decide) rfl _ rfl (run_of_sem rfl (by rw [(show a.eval (.tmp 1) = .pointer (some ⟨w.heap.size, 0, none⟩) from h.agree.eval (by decide))]; exact f_cm1 _ _))
                  case o16 =>
                    intro f a u h hfi hp hq
                    have hyu : Ext w3 u := ((Ext.refl w3).drew).trans h.ext
                    exact h.yieldW rfl (wanted_yes (g := 14) (d' := 53) rfl rfl (h.at_ 14 rfl (pre_of hp 14 rfl))) 55 rfl (by change 55 < 65; decide) rfl _ rfl (run_of_sem rfl (by rw [h.at_ 15 rfl (pre_of hp 15 rfl)]; exact ld_ids (cm_cells (HB1.out.ext hyu) HR.out).2.1))
                  case o17 =>
                    intro f a u h hfi hp hq
                    have q3 : a.tmps[3]?.getD undef = .int .i64 (k : Int) := h.agree.att (by decide)
                    exact h.yieldW rfl (wanted_yes (g := 14) (d' := 53) rfl rfl (h.at_ 14 rfl (pre_of hp 14 rfl))) 56 rfl (by change 56 < 65; decide) rfl _ rfl (by go_simp)
                  case o18 =>
                    intro f a u h hfi hp hq
                    have q56 := h.att 17 rfl (pre_of hp 17 rfl)
                    exact h.yieldW rfl (wanted_yes (g := 14) (d' := 53) rfl rfl (h.at_ 14 rfl (pre_of hp 14 rfl))) 57 rfl (by change 57 < 65; decide) rfl _ rfl (by go_simp)
                  case o19 =>
                    intro f a u h hfi hp hq
                    exact h.yieldW rfl (wanted_yes (g := 14) (d' := 53) rfl rfl (h.at_ 14 rfl (pre_of hp 14 rfl))) 58 rfl (by change 58 < 65; decide) rfl _ rfl (run_of_sem rfl (by rw [h.at_ 16 rfl (pre_of hp 16 rfl), h.at_ 18 rfl (pre_of hp 18 rfl)]; exact ix_id (i := j) rfl hjk))
                  case o20 =>
                    intro f a u h hfi hp hq
                    have hyu : Ext w3 u := ((Ext.refl w3).drew).trans h.ext
                    exact h.yieldW rfl (wanted_yes (g := 14) (d' := 53) rfl rfl (h.at_ 14 rfl (pre_of hp 14 rfl))) 59 rfl (by change 59 < 65; decide) rfl _ rfl (run_of_sem rfl (by rw [h.at_ 19 rfl (pre_of hp 19 rfl)]; exact ld_id HPJL.out (HRJ.out.ext hyu)))
                  case o21 =>
                    intro f a u h hfi hp hq
                    have hyu : Ext w3 u := ((Ext.refl w3).drew).trans h.ext
                    exact h.yieldW rfl (wanted_yes (g := 14) (d' := 53) rfl rfl (h.at_ 14 rfl (pre_of hp 14 rfl))) 60 rfl (by change 60 < 65; decide) rfl _ rfl (run_of_sem rfl (by rw [(show a.eval (.tmp 4) = .pointer (some ⟨g4, 0, none⟩) from h.agree.eval (by decide))]; exact run_load_blk (HB4.out.ext hyu) Tryd.underlying27 rfl (by rw [List.size_toArray, bv_len, HPL.out]; exact id_info)))
                  case o22 =>
                    intro f a u h hfi hp hq
                    have q59 := h.att 20 rfl (pre_of hp 20 rfl)
                    have q60 := h.att 21 rfl (pre_of hp 21 rfl)
                    have z := HEQ u
                    exact h.yieldW rfl (wanted_yes (g := 14) (d' := 53) rfl rfl (h.at_ 14 rfl (pre_of hp 14 rfl))) 61 rfl (by change 61 < 65; decide) rfl _ rfl (by go_simp)
                  case o23 =>
                    intro f a u h hfi hp hq
                    have q53 := h.att 14 rfl (pre_of hp 14 rfl)
                    have q61 := h.att 22 rfl (pre_of hp 22 rfl)
                    exact h.yieldW rfl (wanted_yes (g := 11) (d' := 50) rfl rfl (h.at_ 11 rfl (pre_of hp 11 rfl))) 62 rfl (by change 62 < 65; decide) rfl _ rfl (by go_simp)
                  case o24 =>
                    intro f a u h hfi hp hq
                    have q50 := h.att 11 rfl (pre_of hp 11 rfl)
                    have q62 := h.att 23 rfl (pre_of hp 23 rfl)
                    exact h.yieldW rfl (wanted_none rfl) 63 rfl (by change 63 < 65; decide) rfl _ rfl (by go_simp)
                · intro f a u h hall hfar
                  have hag := h.agree.out
                  have e63 := h.at_ 24 rfl (hall 24 (by decide))
                  have hye := ((Ext.refl w3).drew).trans h.ext
                  simp only [List.foldl_cons, List.foldl_nil, Act.put, List.setIfInBounds_toArray, List.set_cons_zero, List.set_cons_succ, e63] at hag
                  generalize a.eval (.tmp 39) = y39 at hag
                  generalize a.eval (.tmp 40) = y40 at hag
                  generalize a.eval (.tmp 41) = y41 at hag
                  generalize a.eval (.tmp 42) = y42 at hag
                  generalize a.eval (.tmp 43) = y43 at hag
                  generalize a.eval (.tmp 44) = y44 at hag
                  generalize a.eval (.tmp 45) = y45 at hag
                  generalize a.eval (.tmp 46) = y46 at hag
                  generalize a.eval (.tmp 47) = y47 at hag
                  generalize a.eval (.tmp 48) = y48 at hag
                  generalize a.eval (.tmp 49) = y49 at hag
                  generalize a.eval (.tmp 50) = y50 at hag
                  generalize a.eval (.tmp 51) = y51 at hag
                  generalize a.eval (.tmp 52) = y52 at hag
                  generalize a.eval (.tmp 53) = y53 at hag
                  generalize a.eval (.tmp 54) = y54 at hag
                  generalize a.eval (.tmp 55) = y55 at hag
                  generalize a.eval (.tmp 56) = y56 at hag
                  generalize a.eval (.tmp 57) = y57 at hag
                  generalize a.eval (.tmp 58) = y58 at hag
                  generalize a.eval (.tmp 59) = y59 at hag
                  generalize a.eval (.tmp 60) = y60 at hag
                  generalize a.eval (.tmp 61) = y61 at hag
                  generalize a.eval (.tmp 62) = y62 at hag
                  clear h hall hfar e63
                  subst hag
                  go_wp2
                  go_ret
                  exact ⟨ret_bool HF.out.symm, hxw.trans hye⟩
              | false =>
                rw [hb] at HEQ HOK
                have HT := Lib.hid (show paOk c k = true from HOK.out)
                refine wp_region_ops (RInv [39, 40, 41, 42, 43, 44, 45, 46, 47, 48, 49, 50, 51, 52, 53, 54, 55, 56, 57, 58, 59, 60, 61, 62, 63] _ w3.drew [(0, 39, .agg (bv p).toArray), (1, 40, .bool true), (2, 41, .bool false), (3, 42, .bool false), (4, 43, .pointer (some ⟨g4, 0, none⟩)), (5, 44, .int .u8 ((idKind p).toNat : Int)), (6, 45, .pointer (some ⟨w.heap.size, 0, none⟩)), (7, 46, .pointer (some ⟨w.heap.size, 0, none⟩)), (8, 47, .int .u8 ((idKind c.root).toNat : Int)), (9, 48, .bool false), (10, 49, .bool false), (11, 50, .bool false), (12, 51, .int .i64 (k : Int)), (13, 52, .bool true), (14, 53, .bool true), (15, 54, .pointer (some ⟨w.heap.size, 33, none⟩)), (16, 55, .slice (some x) Q qc), (17, 56, .int .i64 (k : Int)), (18, 57, .int .i64 (j : Int)), (19, 58, .pointer (some (x.add (j * 33)))), (20, 59, .agg (bv pj).toArray), (21, 60, .agg (bv p).toArray), (22, 61, .bool false), (23, 62, .bool false), (24, 63, .bool false)] []) (by kernel_rfl) (by kernel_rfl) RInv.start ?_ ?_
                · refine ⟨?o0, ?o1, ?o2, ?o3, ?o4, ?o5, ?o6, ?o7, ?o8, ?o9, ?o10, ?o11, ?o12, ?o13, ?o14, ?o15, ?o16, ?o17, ?o18, ?o19, ?o20, ?o21, ?o22, ?o23, ?o24, trivial⟩
                  case o0 =>
                    intro f a u h hfi hp hq
                    have hyu : Ext w3 u := ((Ext.refl w3).drew).trans h.ext
                    exact h.yieldW rfl (wanted_none rfl) 39 rfl (by change 39 < 65; decide) rfl _ rfl (run_of_sem rfl (by rw [(show a.eval (.tmp 4) = .pointer (some ⟨g4, 0, none⟩) from h.agree.eval (by decide))]; exact run_load_blk (HB4.out.ext hyu) Tryd.underlying27 rfl (by rw [List.size_toArray, bv_len, HPL.out]; exact id_info)))
                  case o1 =>
                    intro f a u h hfi hp hq
                    exact h.callW rfl (wanted_none rfl) 40 rfl (by change 40 < 65; decide) rfl _ rfl 93 #[.tmp 39] #[27] _ rfl (by kernel_rfl) (by rw [arr1, h.at_ 0 rfl (pre_of hp 0 rfl)]) (HGP u)
                  case o2 =>
                    intro f a u h hfi hp hq
                    have q40 := h.att 1 rfl (pre_of hp 1 rfl)
                    exact h.yieldW rfl (wanted_none rfl) 41 rfl (by change 41 < 65; decide) rfl _ rfl (by go_simp)
                  case o3 =>
                    intro f a u h hfi hp hq
                    have q41 := h.att 2 rfl (pre_of hp 2 rfl)
                    exact h.yieldW rfl (wanted_none rfl) 42 rfl (by change 42 < 65; decide) rfl _ rfl (by go_simp)
                  case o4 =>
                    intro f a u h hfi hp hq
                    exact h.yieldW rfl (wanted_yes (g := 3) (d' := 42) rfl rfl (h.at_ 3 rfl (pre_of hp 3 rfl))) 43 rfl (by change 43 < 65; decide) rfl _ rfl (run_of_sem rfl (by rw [(show a.eval (.tmp 4) = .pointer (some ⟨g4, 0, none⟩) from h.agree.eval (by decide))]; exact f_id0 _ _))
                  case o5 =>
                    intro f a u h hfi hp hq
                    have hyu : Ext w3 u := ((Ext.refl w3).drew).trans h.ext
                    exact h.yieldW rfl (wanted_yes (g := 3) (d' := 42) rfl rfl (h.at_ 3 rfl (pre_of hp 3 rfl))) 44 rfl (by change 44 < 65; decide) rfl _ rfl (run_of_sem rfl (by rw [h.at_ 4 rfl (pre_of hp 4 rfl)]; exact ld_u8 (Cells.head (id_box (HB4.out.ext hyu)) (by rw [HPL.out]; decide))))
                  case o6 =>
                    intro f a u h hfi hp hq
                    exact h.yieldW rfl (wanted_yes (g := 3) (d' := 42) rfl rfl (h.at_ 3 rfl (pre_of hp 3 rfl))) 45 rfl (by change 45 < 65; decide) rfl _ rfl (run_of_sem rfl (by rw [(show a.eval (.tmp 1) = .pointer (some ⟨w.heap.size, 0, none⟩) from h.agree.eval (by decide))]; exact f_cm0 _ _))
                  case o7 =>
                    intro f a u h hfi hp hq
                    exact h.yieldW rfl (wanted_yes (g := 3) (d' := 42) rfl rfl (h.at_ 3 rfl (pre_of hp 3 rfl))) 46 rfl (by change 46 < 65; decide) rfl _ rfl (run_of_sem rfl (by rw [h.at_ 6 rfl (pre_of hp 6 rfl)]; exact f_id0 _ _))
                  case o8 =>
                    intro f a u h hfi hp hq
                    have hyu : Ext w3 u := ((Ext.refl w3).drew).trans h.ext
                    exact h.yieldW rfl (wanted_yes (g := 3) (d' := 42) rfl rfl (h.at_ 3 rfl (pre_of hp 3 rfl))) 47 rfl (by change 47 < 65; decide) rfl _ rfl (run_of_sem rfl (by rw [h.at_ 7 rfl (pre_of hp 7 rfl)]; exact ld_u8 (Cells.head (cm_cells (HB1.out.ext hyu) HR.out).1 (by rw [HR.out]; decide))))
                  case o9 =>
                    intro f a u h hfi hp hq
                    have q44 := h.att 5 rfl (pre_of hp 5 rfl)
                    have q47 := h.att 8 rfl (pre_of hp 8 rfl)
                    exact h.yieldW rfl (wanted_yes (g := 3) (d' := 42) rfl rfl (h.at_ 3 rfl (pre_of hp 3 rfl))) 48 rfl (by change 48 < 65; decide) rfl _ rfl (by go_simp)
                  case o10 =>
                    intro f a u h hfi hp hq
                    have q42 := h.att 3 rfl (pre_of hp 3 rfl)
                    have q48 := h.att 9 rfl (pre_of hp 9 rfl)
                    exact h.yieldW rfl (wanted_none rfl) 49 rfl (by change 49 < 65; decide) rfl _ rfl (by go_simp)
                  case o11 =>
                    intro f a u h hfi hp hq
                    have q49 := h.att 10 rfl (pre_of hp 10 rfl)
                    exact h.yieldW rfl (wanted_none rfl) 50 rfl (by change 50 < 65; decide) rfl _ rfl (by go_simp)
                  case o12 =>
                    intro f a u h hfi hp hq
                    have q3 : a.tmps[3]?.getD undef = .int .i64 (k : Int) := h.agree.att (by decide)
                    exact h.yieldW rfl (wanted_yes (g := 11) (d' := 50) rfl rfl (h.at_ 11 rfl (pre_of hp 11 rfl))) 51 rfl (by change 51 < 65; decide) rfl _ rfl (by go_simp)
                  case o13 =>
                    intro f a u h hfi hp hq
                    have q51 := h.att 12 rfl (pre_of hp 12 rfl)
                    exact h.yieldW rfl (wanted_yes (g := 11) (d' := 50) rfl rfl (h.at_ 11 rfl (pre_of hp 11 rfl))) 52 rfl (by change 52 < 65; decide) rfl _ rfl (by go_simp)
                  case o14 =>
                    intro f a u h hfi hp hq
                    have q52 := h.att 13 rfl (pre_of hp 13 rfl)
                    exact h.yieldW rfl (wanted_yes (g := 11) (d' := 50) rfl rfl (h.at_ 11 rfl (pre_of hp 11 rfl))) 53 rfl (by change 53 < 65; decide) rfl _ rfl (by go_simp)
                  case o15 =>
                    intro f a u h hfi hp hq
                    exact h.yieldW rfl (wanted_yes (g := 14) (d' := 53) rfl rfl (h.at_ 14 rfl (pre_of hp 14 rfl))) 54 rfl (by change 54 < 65; decide) rfl _ rfl (run_of_sem rfl (by rw [(show a.eval (.tmp 1) = .pointer (some ⟨w.heap.size, 0, none⟩) from h.agree.eval (by decide))]; exact f_cm1 _ _))
                  case o16 =>
                    intro f a u h hfi hp hq
                    have hyu : Ext w3 u := ((Ext.refl w3).drew).trans h.ext
                    exact h.yieldW rfl (wanted_yes (g := 14) (d' := 53) rfl rfl (h.at_ 14 rfl (pre_of hp 14 rfl))) 55 rfl (by change 55 < 65; decide) rfl _ rfl (run_of_sem rfl (by rw [h.at_ 15 rfl (pre_of hp 15 rfl)]; exact ld_ids (cm_cells (HB1.out.ext hyu) HR.out).2.1))
                  case o17 =>
                    intro f a u h hfi hp hq
                    have q3 : a.tmps[3]?.getD undef = .int .i64 (k : Int) := h.agree.att (by decide)
                    exact h.yieldW rfl (wanted_yes (g := 14) (d' := 53) rfl rfl (h.at_ 14 rfl (pre_of hp 14 rfl))) 56 rfl (by change 56 < 65; decide) rfl _ rfl (by go_simp)
                  case o18 =>
                    intro f a u h hfi hp hq
                    have q56 := h.att 17 rfl (pre_of hp 17 rfl)
                    exact h.yieldW rfl (wanted_yes (g := 14) (d' := 53) rfl rfl (h.at_ 14 rfl (pre_of hp 14 rfl))) 57 rfl (by change 57 < 65; decide) rfl _ rfl (by go_simp)
                  case o19 =>
                    intro f a u h hfi hp hq
                    exact h.yieldW rfl (wanted_yes (g := 14) (d' := 53) rfl rfl (h.at_ 14 rfl (pre_of hp 14 rfl))) 58 rfl (by change 58 < 65; decide) rfl _ rfl (run_of_sem rfl (by rw [h.at_ 16 rfl (pre_of hp 16 rfl), h.at_ 18 rfl (pre_of hp 18 rfl)]; exact ix_id (i := j) rfl hjk))
                  case o20 =>
                    intro f a u h hfi hp hq
                    have hyu : Ext w3 u := ((Ext.refl w3).drew).trans h.ext
                    exact h.yieldW rfl (wanted_yes (g := 14) (d' := 53) rfl rfl (h.at_ 14 rfl (pre_of hp 14 rfl))) 59 rfl (by change 59 < 65; decide) rfl _ rfl (run_of_sem rfl (by rw [h.at_ 19 rfl (pre_of hp 19 rfl)]; exact ld_id HPJL.out (HRJ.out.ext hyu)))
                  case o21 =>
                    intro f a u h hfi hp hq
                    have hyu : Ext w3 u := ((Ext.refl w3).drew).trans h.ext
                    exact h.yieldW rfl (wanted_yes (g := 14) (d' := 53) rfl rfl (h.at_ 14 rfl (pre_of hp 14 rfl))) 60 rfl (by change 60 < 65; decide) rfl _ rfl (run_of_sem rfl (by rw [(show a.eval (.tmp 4) = .pointer (some ⟨g4, 0, none⟩) from h.agree.eval (by decide))]; exact run_load_blk (HB4.out.ext hyu) Tryd.underlying27 rfl (by rw [List.size_toArray, bv_len, HPL.out]; exact id_info)))
                  case o22 =>
                    intro f a u h hfi hp hq
                    have q59 := h.att 20 rfl (pre_of hp 20 rfl)
                    have q60 := h.att 21 rfl (pre_of hp 21 rfl)
                    have z := HEQ u
                    exact h.yieldW rfl (wanted_yes (g := 14) (d' := 53) rfl rfl (h.at_ 14 rfl (pre_of hp 14 rfl))) 61 rfl (by change 61 < 65; decide) rfl _ rfl (by go_simp)
                  case o23 =>
                    intro f a u h hfi hp hq
                    have q53 := h.att 14 rfl (pre_of hp 14 rfl)
                    have q61 := h.att 22 rfl (pre_of hp 22 rfl)
                    exact h.yieldW rfl (wanted_yes (g := 11) (d' := 50) rfl rfl (h.at_ 11 rfl (pre_of hp 11 rfl))) 62 rfl (by change 62 < 65; decide) rfl _ rfl (by go_simp)
                  case o24 =>
                    intro f a u h hfi hp hq
                    have q50 := h.att 11 rfl (pre_of hp 11 rfl)
                    have q62 := h.att 23 rfl (pre_of hp 23 rfl)
                    exact h.yieldW rfl (wanted_none rfl) 63 rfl (by change 63 < 65; decide) rfl _ rfl (by go_simp)
                · intro f a u h hall hfar
                  have hag := h.agree.out
                  have e63 := h.at_ 24 rfl (hall 24 (by decide))
                  have hye := ((Ext.refl w3).drew).trans h.ext
                  simp only [List.foldl_cons, List.foldl_nil, Act.put, List.setIfInBounds_toArray, List.set_cons_zero, List.set_cons_succ, e63] at hag
                  generalize a.eval (.tmp 39) = y39 at hag
                  generalize a.eval (.tmp 40) = y40 at hag
                  generalize a.eval (.tmp 41) = y41 at hag
                  generalize a.eval (.tmp 42) = y42 at hag
                  generalize a.eval (.tmp 43) = y43 at hag
                  generalize a.eval (.tmp 44) = y44 at hag
                  generalize a.eval (.tmp 45) = y45 at hag
                  generalize a.eval (.tmp 46) = y46 at hag
                  generalize a.eval (.tmp 47) = y47 at hag
                  generalize a.eval (.tmp 48) = y48 at hag
                  generalize a.eval (.tmp 49) = y49 at hag
                  generalize a.eval (.tmp 50) = y50 at hag
                  generalize a.eval (.tmp 51) = y51 at hag
                  generalize a.eval (.tmp 52) = y52 at hag
                  generalize a.eval (.tmp 53) = y53 at hag
                  generalize a.eval (.tmp 54) = y54 at hag
                  generalize a.eval (.tmp 55) = y55 at hag
                  generalize a.eval (.tmp 56) = y56 at hag
                  generalize a.eval (.tmp 57) = y57 at hag
                  generalize a.eval (.tmp 58) = y58 at hag
                  generalize a.eval (.tmp 59) = y59 at hag
                  generalize a.eval (.tmp 60) = y60 at hag
                  generalize a.eval (.tmp 61) = y61 at hag
                  generalize a.eval (.tmp 62) = y62 at hag
                  clear h hall hfar e63
                  subst hag
                  go_wp2
                  go_roundw
                  case rel => exact ⟨k + 1, by omega, by go_num, range_snoc hA.out HT.out, hxx.trans hye⟩
                  case measure => simp [intOf]; omega
            · have hi0 : ¬ (0 : Int) < (k : Int) := by omega
              have HT := Lib.hid (show paOk c k = true from HOK.out.trans (by rw [show (k == 0) = true from by rw [beq_iff_eq]; omega]; rfl))
              refine wp_region_ops (RInv [39, 40, 41, 42, 43, 44, 45, 46, 47, 48, 49, 50, 51, 52, 53, 54, 55, 56, 57, 58, 59, 60, 61, 62, 63] _ w3.drew [(0, 39, .agg (bv p).toArray), (1, 40, .bool true), (2, 41, .bool false), (3, 42, .bool false), (4, 43, .pointer (some ⟨g4, 0, none⟩)), (5, 44, .int .u8 ((idKind p).toNat : Int)), (6, 45, .pointer (some ⟨w.heap.size, 0, none⟩)), (7, 46, .pointer (some ⟨w.heap.size, 0, none⟩)), (8, 47, .int .u8 ((idKind c.root).toNat : Int)), (9, 48, .bool false), (10, 49, .bool false), (11, 50, .bool false), (12, 51, .int .i64 (k : Int)), (13, 52, .bool false), (14, 53, .bool false), (15, 54, undef), (16, 55, undef), (17, 56, undef), (18, 57, undef), (19, 58, undef), (20, 59, undef), (21, 60, undef), (22, 61, undef), (23, 62, .bool false), (24, 63, .bool false)] []) (by kernel_rfl) (by kernel_rfl) RInv.start ?_ ?_
              · refine ⟨?o0, ?o1, ?o2, ?o3, ?o4, ?o5, ?o6, ?o7, ?o8, ?o9, ?o10, ?o11, ?o12, ?o13, ?o14, ?o15, ?o16, ?o17, ?o18, ?o19, ?o20, ?o21, ?o22, ?o23, ?o24, trivial⟩
                case o0 =>
                  intro f a u h hfi hp hq
                  have hyu : Ext w3 u := ((Ext.refl w3).drew).trans h.ext
                  exact h.yieldW rfl (wanted_none rfl) 39 rfl (by change 39 < 65; decide) rfl _ rfl (run_of_sem rfl (by rw [(show a.eval (.tmp 4) = .pointer (some ⟨g4, 0, none⟩) from h.agree.eval (by decide))]; exact run_load_blk (HB4.out.ext hyu) Tryd.underlying27 rfl (by rw [List.size_toArray, bv_len, HPL.out]; exact id_info)))
                case o1 =>
                  intro f a u h hfi hp hq
                  exact h.callW rfl (wanted_none rfl) 40 rfl (by change 40 < 65; decide) rfl _ rfl 93 #[.tmp 39] #[27] _ rfl (by kernel_rfl) (by rw [arr1, h.at_ 0 rfl (pre_of hp 0 rfl)]) (HGP u)
                case o2 =>
                  intro f a u h hfi hp hq
                  have q40 := h.att 1 rfl (pre_of hp 1 rfl)
                  exact h.yieldW rfl (wanted_none rfl) 41 rfl (by change 41 < 65; decide) rfl _ rfl (by go_simp)
                case o3 =>
                  intro f a u h hfi hp hq
                  have q41 := h.att 2 rfl (pre_of hp 2 rfl)
                  exact h.yieldW rfl (wanted_none rfl) 42 rfl (by change 42 < 65; decide) rfl _ rfl (by go_simp)
                case o4 =>
                  intro f a u h hfi hp hq
                  exact h.yieldW rfl (wanted_yes (g := 3) (d' := 42) rfl rfl (h.at_ 3 rfl (pre_of hp 3 rfl))) 43 rfl (by change 43 < 65; decide) rfl _ rfl (run_of_sem rfl (by rw [(show a.eval (.tmp 4) = .pointer (some ⟨g4, 0, none⟩) from h.agree.eval (by decide))]; exact f_id0 _ _))
                case o5 =>
                  intro f a u h hfi hp hq
                  have hyu : Ext w3 u := ((Ext.refl w3).drew).trans h.ext
                  exact h.yieldW rfl (wanted_yes (g := 3) (d' := 42) rfl rfl (h.at_ 3 rfl (pre_of hp 3 rfl))) 44 rfl (by change 44 < 65; decide) rfl _ rfl (run_of_sem rfl (by rw [h.at_ 4 rfl (pre_of hp 4 rfl)]; exact ld_u8 (Cells.head (id_box (HB4.out.ext hyu)) (by rw [HPL.out]; decide))))
                case o6 =>
                  intro f a u h hfi hp hq
                  exact h.yieldW rfl (wanted_yes (g := 3) (d' := 42) rfl rfl (h.at_ 3 rfl (pre_of hp 3 rfl))) 45 rfl (by change 45 < 65; decide) rfl _ rfl (run_of_sem rfl (by rw [(show a.eval (.tmp 1) = .pointer (some ⟨w.heap.size, 0, none⟩) from h.agree.eval (by decide))]; exact f_cm0 _ _))
                case o7 =>
                  intro f a u h hfi hp hq
                  exact h.yieldW rfl (wanted_yes (g := 3) (d' := 42) rfl rfl (h.at_ 3 rfl (pre_of hp 3 rfl))) 46 rfl (by change 46 < 65; decide) rfl _ rfl (run_of_sem rfl (by rw [h.at_ 6 rfl (pre_of hp 6 rfl)]; exact f_id0 _ _))
                case o8 =>
                  intro f a u h hfi hp hq
                  have hyu : Ext w3 u := ((Ext.refl w3).drew).trans h.ext
                  exact h.yieldW rfl (wanted_yes (g := 3) (d' := 42) rfl rfl (h.at_ 3 rfl (pre_of hp 3 rfl))) 47 rfl (by change 47 < 65; decide) rfl _ rfl (run_of_sem rfl (by rw [h.at_ 7 rfl (pre_of hp 7 rfl)]; exact ld_u8 (Cells.head (cm_cells (HB1.out.ext hyu) HR.out).1 (by rw [HR.out]; decide))))
                case o9 =>
                  intro f a u h hfi hp hq
                  have q44 := h.att 5 rfl (pre_of hp 5 rfl)
                  have q47 := h.att 8 rfl (pre_of hp 8 rfl)
                  exact h.yieldW rfl (wanted_yes (g := 3) (d' := 42) rfl rfl (h.at_ 3 rfl (pre_of hp 3 rfl))) 48 rfl (by change 48 < 65; decide) rfl _ rfl (by go_simp)
                case o10 =>
                  intro f a u h hfi hp hq
                  have q42 := h.att 3 rfl (pre_of hp 3 rfl)
                  have q48 := h.att 9 rfl (pre_of hp 9 rfl)
                  exact h.yieldW rfl (wanted_none rfl) 49 rfl (by change 49 < 65; decide) rfl _ rfl (by go_simp)
                case o11 =>
                  intro f a u h hfi hp hq
                  have q49 := h.att 10 rfl (pre_of hp 10 rfl)
                  exact h.yieldW rfl (wanted_none rfl) 50 rfl (by change 50 < 65; decide) rfl _ rfl (by go_simp)
                case o12 =>
                  intro f a u h hfi hp hq
                  have q3 : a.tmps[3]?.getD undef = .int .i64 (k : Int) := h.agree.att (by decide)
                  exact h.yieldW rfl (wanted_yes (g := 11) (d' := 50) rfl rfl (h.at_ 11 rfl (pre_of hp 11 rfl))) 51 rfl (by change 51 < 65; decide) rfl _ rfl (by go_simp)
                case o13 =>
                  intro f a u h hfi hp hq
                  have q51 := h.att 12 rfl (pre_of hp 12 rfl)
                  exact h.yieldW rfl (wanted_yes (g := 11) (d' := 50) rfl rfl (h.at_ 11 rfl (pre_of hp 11 rfl))) 52 rfl (by change 52 < 65; decide) rfl _ rfl (by go_simp)
                case o14 =>
                  intro f a u h hfi hp hq
                  have q52 := h.att 13 rfl (pre_of hp 13 rfl)
                  exact h.yieldW rfl (wanted_yes (g := 11) (d' := 50) rfl rfl (h.at_ 11 rfl (pre_of hp 11 rfl))) 53 rfl (by change 53 < 65; decide) rfl _ rfl (by go_simp)
                case o15 =>
                  intro f a u h hfi hp hq
                  exact h.skip rfl (wanted_not (g := 14) (d' := 53) rfl rfl (h.at_ 14 rfl (pre_of hp 14 rfl)) rfl) 54 rfl (by change 54 < 65; decide) rfl rfl
                case o16 =>
                  intro f a u h hfi hp hq
                  exact h.skip rfl (wanted_not (g := 14) (d' := 53) rfl rfl (h.at_ 14 rfl (pre_of hp 14 rfl)) rfl) 55 rfl (by change 55 < 65; decide) rfl rfl
                case o17 =>
                  intro f a u h hfi hp hq
                  exact h.skip rfl (wanted_not (g := 14) (d' := 53) rfl rfl (h.at_ 14 rfl (pre_of hp 14 rfl)) rfl) 56 rfl (by change 56 < 65; decide) rfl rfl
                case o18 =>
                  intro f a u h hfi hp hq
                  exact h.skip rfl (wanted_not (g := 14) (d' := 53) rfl rfl (h.at_ 14 rfl (pre_of hp 14 rfl)) rfl) 57 rfl (by change 57 < 65; decide) rfl rfl
                case o19 =>
                  intro f a u h hfi hp hq
                  exact h.skip rfl (wanted_not (g := 14) (d' := 53) rfl rfl (h.at_ 14 rfl (pre_of hp 14 rfl)) rfl) 58 rfl (by change 58 < 65; decide) rfl rfl
                case o20 =>
                  intro f a u h hfi hp hq
                  exact h.skip rfl (wanted_not (g := 14) (d' := 53) rfl rfl (h.at_ 14 rfl (pre_of hp 14 rfl)) rfl) 59 rfl (by change 59 < 65; decide) rfl rfl
                case o21 =>
                  intro f a u h hfi hp hq
                  exact h.skip rfl (wanted_not (g := 14) (d' := 53) rfl rfl (h.at_ 14 rfl (pre_of hp 14 rfl)) rfl) 60 rfl (by change 60 < 65; decide) rfl rfl
                case o22 =>
                  intro f a u h hfi hp hq
                  exact h.skip rfl (wanted_not (g := 14) (d' := 53) rfl rfl (h.at_ 14 rfl (pre_of hp 14 rfl)) rfl) 61 rfl (by change 61 < 65; decide) rfl rfl
                case o23 =>
                  intro f a u h hfi hp hq
                  have q53 := h.att 14 rfl (pre_of hp 14 rfl)
                  have q61 := h.att 22 rfl (pre_of hp 22 rfl)
                  exact h.yieldW rfl (wanted_yes (g := 11) (d' := 50) rfl rfl (h.at_ 11 rfl (pre_of hp 11 rfl))) 62 rfl (by change 62 < 65; decide) rfl _ rfl (by go_simp)
                case o24 =>
                  intro f a u h hfi hp hq
                  have q50 := h.att 11 rfl (pre_of hp 11 rfl)
                  have q62 := h.att 23 rfl (pre_of hp 23 rfl)
                  exact h.yieldW rfl (wanted_none rfl) 63 rfl (by change 63 < 65; decide) rfl _ rfl (by go_simp)
              · intro f a u h hall hfar
                have hag := h.agree.out
                have e63 := h.at_ 24 rfl (hall 24 (by decide))
                have hye := ((Ext.refl w3).drew).trans h.ext
                simp only [List.foldl_cons, List.foldl_nil, Act.put, List.setIfInBounds_toArray, List.set_cons_zero, List.set_cons_succ, e63] at hag
                generalize a.eval (.tmp 39) = y39 at hag
                generalize a.eval (.tmp 40) = y40 at hag
                generalize a.eval (.tmp 41) = y41 at hag
                generalize a.eval (.tmp 42) = y42 at hag
                generalize a.eval (.tmp 43) = y43 at hag
                generalize a.eval (.tmp 44) = y44 at hag
                generalize a.eval (.tmp 45) = y45 at hag
                generalize a.eval (.tmp 46) = y46 at hag
                generalize a.eval (.tmp 47) = y47 at hag
                generalize a.eval (.tmp 48) = y48 at hag
                generalize a.eval (.tmp 49) = y49 at hag
                generalize a.eval (.tmp 50) = y50 at hag
                generalize a.eval (.tmp 51) = y51 at hag
                generalize a.eval (.tmp 52) = y52 at hag
                generalize a.eval (.tmp 53) = y53 at hag
                generalize a.eval (.tmp 54) = y54 at hag
                generalize a.eval (.tmp 55) = y55 at hag
                generalize a.eval (.tmp 56) = y56 at hag
                generalize a.eval (.tmp 57) = y57 at hag
                generalize a.eval (.tmp 58) = y58 at hag
                generalize a.eval (.tmp 59) = y59 at hag
                generalize a.eval (.tmp 60) = y60 at hag
                generalize a.eval (.tmp 61) = y61 at hag
                generalize a.eval (.tmp 62) = y62 at hag
                clear h hall hfar e63
                subst hag
                go_wp2
                go_roundw
                case rel => exact ⟨k + 1, by omega, by go_num, range_snoc hA.out HT.out, hxx.trans hye⟩
                case measure => simp [intOf]; omega
      · obtain rfl : k = Q := by omega
        have HT := Lib.hid (show ((List.range c.parents.length).all (paOk c)) = true from by rw [Hh.out.hq]; exact hA.out)
        go_wp2
        go_ret
        exact ⟨ret_bool HT.out.symm, hye.trans hx⟩
/-- GoodCommit. -/
theorem goodCommit_calls (c : Cm) (qa : Option Addr) (Q qc : Nat) (w : World) (h : CmAt w c qa Q qc) :
    Calls Tryd.prog 66 #[cma c qa Q qc] w fun e w' => e = .returned (.bool c.good) ∧ Ext w w' := by
  have hQ := h.hq
  by_cases h1 : (2 : Int) < (Q : Int)
  · have hg : c.good = false := by unfold Cm.good Cm.shape; rw [hQ, decide_eq_false (show ¬ Q ≤ 2 by omega)]; rfl
    rw [hg]; exact goodCommit_1 c qa Q qc w h h1
  by_cases h2 : (32 : Int) < (c.note.size : Int)
  · have hg : c.good = false := by unfold Cm.good Cm.shape; rw [decide_eq_false (show ¬ c.note.size ≤ 32 by omega)]; simp
    rw [hg]; exact goodCommit_2 c qa Q qc w h h1 h2
  by_cases h3 : c.num < 1
  · have hg : c.good = false := by unfold Cm.good Cm.shape; rw [decide_eq_false (show ¬ 1 ≤ c.num by omega)]; simp
    rw [hg]; exact goodCommit_3 c qa Q qc w h h1 h2 h3
  by_cases h4 : 1024 < c.num
  · have hg : c.good = false := by unfold Cm.good Cm.shape; rw [decide_eq_false (show ¬ c.num ≤ 1024 by omega)]; simp
    rw [hg]; exact goodCommit_4 c qa Q qc w h h1 h2 h3 h4
  cases hr : idGood c.root with
  | false =>
    have hg : c.good = false := by unfold Cm.good Cm.shape; rw [hr]; simp
    rw [hg]; exact goodCommit_5 c qa Q qc w h h1 h2 h3 h4 hr
  | true =>
    have hg : c.good = ((List.range c.parents.length).all (paOk c)) := by
      unfold Cm.good Cm.shape
      rw [hQ, hr, decide_eq_true (show Q ≤ 2 by omega), decide_eq_true (show c.note.size ≤ 32 by omega), decide_eq_true (show 1 ≤ c.num by omega), decide_eq_true (show c.num ≤ 1024 by omega)]
      simp
    rw [hg]; exact goodCommit_ok c qa Q qc w h h1 h2 h3 h4 hr
end Go.Proofs.YtcnhbodemabbdaaDoor
/- The walk of object.PutCommit. -/
namespace Go.Proofs.YtcnhbodemabbdaaDoor
open Go.RowKit
set_option linter.unusedVariables false

theorem cm_parts {c : Cm} (h : c.good = true) : c.parents.length ≤ 2 ∧ c.note.size ≤ 32 ∧ 1 ≤ c.num ∧ c.num ≤ 1024 := by
  unfold Cm.good Cm.shape at h
  simp only [Bool.and_eq_true, decide_eq_true_eq] at h
  exact ⟨h.1.1, h.1.2.1, h.1.2.2.1, h.1.2.2.2.1⟩
/-- The bytes up to the first k parents. -/
def cmsB (c : Cm) (k : Nat) : List UInt8 := [3, UInt8.ofNat c.parents.length] ++ idText c.root ++ (c.parents.take k).flatMap idText
theorem cmsB_succ (c : Cm) {k : Nat} (h : k < c.parents.length) : cmsB c (k + 1) = cmsB c k ++ idText c.parents[k] := by
  unfold cmsB
  rw [List.take_succ_eq_append_getElem h, List.flatMap_append]
  simp
theorem cmsB_len {c : Cm} (hr : c.root.length = 33) (hl : ∀ p ∈ c.parents, p.length = 33) : ∀ k ≤ c.parents.length, (cmsB c k).length ≤ 50 + 50 * k := by
  intro k
  induction k with
  | zero =>
    intro _
    have := idText_len hr
    simp only [cmsB, List.take_zero, List.flatMap_nil, List.append_nil, List.length_append, List.length_cons, List.length_nil]
    omega
  | succ k ih =>
    intro hk
    have h2 := ih (by omega)
    have h3 := idText_len (hl _ (List.getElem_mem hk))
    rw [cmsB_succ c hk, List.length_append]
    omega
theorem cm_bytes (c : Cm) : c.bytes = cmsB c c.parents.length ++ textB (blo c.note) ++ intB c.num := by
  unfold Cm.bytes cmsB
  rw [List.take_length]
theorem ln_ids {w : World} {a : Option Addr} {n c : Nat} (h : n ≤ 140737488351232) : IntKind.i64.wrap (n : Int) = (n : Int) := by
  simp only [IntKind.wrap, IntKind.bits, IntKind.signed]; simp; omega

end Go.Proofs.YtcnhbodemabbdaaDoor
