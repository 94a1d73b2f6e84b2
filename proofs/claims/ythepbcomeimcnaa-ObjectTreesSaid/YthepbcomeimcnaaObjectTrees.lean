/- ObjectTrees: the good one, its bytes and what bytes are read as are what the document says: the walk of the law. Printed by wip/mkobjlaws.py. -/
import Derived.Test.YthepbcomeimcnaaObjSameC
import Derived.Test.YthepbcomeimcnaaObjLaw
import Derived.Test.YthepbcomeimcnaaObjRGetC
namespace Go.Proofs.Ythepbcomeimcnaa
open Go.RowKit
set_option linter.unusedVariables false

theorem blk_row {w : World} {g : Nat} {T : TypeId} {l : List Value} (h : Blk w g T l.toArray) : ∀ j v, l[j]? = some v → w.cell? ((⟨g, 0, none⟩ : Addr).add j) = some v := fun j v hv => by
  rw [add_new, h.cell, ← Array.getElem?_toList, List.toList_toArray]
  exact hv

set_option maxRecDepth 100000 in
set_option maxHeartbeats 16000000 in
theorem objectTrees_calls (t : Tr) (pa ka : Option Addr) (P K pc kc : Nat) (A : Option Addr) (n c : Nat) (bs : List UInt8) (w : World) (h : TrAt w t pa ka P K pc kc) (hb : Cells w A (bv bs)) (hn : bs.length = n) (hl : n ≤ 140737488351232) :
    Calls Try.prog 5 #[tra pa P pc ka K kc, .slice A n c] w fun e w' => e = .returned (.bool true) ∧ Ext w w' := by
  have Hh := Lib.hid h
  have Hn := Lib.hid hn
  have hbk := h.bk
  have hbp := h.bp
  have Hl := Lib.hid hl
  clear h hn
  go_enter Try.func5, Try.ntmps5
  obtain ⟨w0, hw0⟩ : ∃ w0, w0 = w.alloc (.cells #[.slice pa P pc, .slice ka K kc] 25) := ⟨_, rfl⟩
  have hx0 : Ext w w0 := by rw [hw0]; exact (Ext.refl _).alloc _
  have Hbx := Lib.hid (show Blk w0 w.heap.size 25 #[.slice pa P pc, .slice ka K kc] from by rw [hw0]; exact Blk.new w _ _)
  go_upto_region 1 with (fail)
  rw [← hw0]
  clear hw0
  obtain ⟨g, hg1⟩ : ∃ g, g = w.heap.size := ⟨_, rfl⟩
  rw [← hg1] at Hbx ⊢
  clear hg1
  have HC := Lib.hid (blk_row (l := [.slice pa P pc, .slice ka K kc]) Hbx.out)
  by_cases hn4 : (4096 : Int) < (n : Int)
  · go_wp2_with (first
      | (go_at_call 8; (with_reducible refine (obj_alive _).mono ?_); rintro e w1 ⟨rfl, hx1⟩)
      | (refine wpList_load_row_ rfl 25 (.tmp 2) rfl ⟨g, 0, none⟩ rfl ([.slice pa P pc, .slice ka K kc]) _ (fun j v hv => hx1.cell (HC.out j v hv)) Try.underlying25 rfl (by kernel_rfl) ?_)
      | (go_at_call 9; (with_reducible refine (greatTree_few t pa ka P K pc kc _ (Hh.out.ext (hx0.trans hx1))).mono ?_); rintro e w2 ⟨⟨b, rfl, few⟩, hx2⟩; cases b))
    all_goals
      go_ret
      exact ⟨rfl, (hx0.trans hx1).trans hx2⟩
  · go_upto_region 5 with (first
      | (go_at_call 8; (with_reducible refine (obj_alive _).mono ?_); rintro e w1 ⟨rfl, hx1⟩)
      | (refine wpList_load_row_ rfl 25 (.tmp 2) rfl ⟨g, 0, none⟩ rfl ([.slice pa P pc, .slice ka K kc]) _ (fun j v hv => hx1.cell (HC.out j v hv)) Try.underlying25 rfl (by kernel_rfl) ?_)
      | (go_at_call 9; (with_reducible refine (greatTree_few t pa ka P K pc kc _ (Hh.out.ext (hx0.trans hx1))).mono ?_); rintro e w2 ⟨⟨b, rfl, few⟩, hx2⟩; cases b))
    rotate_left
    · go_ret
      exact ⟨rfl, (hx0.trans hx1).trans hx2⟩
    clear few
    have hx02 := hx1.trans hx2
    obtain ⟨BT, hBT⟩ : ∃ BT, BT = (if t.good then t.bytes else []) := ⟨_, rfl⟩
    obtain ⟨eT, heT⟩ : ∃ eT : Int, eT = (if t.good then 0 else 1) := ⟨_, rfl⟩
    have HBT := Lib.hid hBT
    have HeT := Lib.hid heT
    have hpt := fun w' h' => putTree_calls t pa ka P K pc kc w' h'
    simp only [← hBT, ← heT] at hpt
    have HPT := Lib.hid hpt
    clear hpt hBT heT
    go_upto_region 7 with (first
      | (refine wpList_load_row_ rfl 25 (.tmp 2) rfl ⟨g, 0, none⟩ rfl ([.slice pa P pc, .slice ka K kc]) _ (fun j v hv => hx03.cell (HC.out j v hv)) Try.underlying25 rfl (by kernel_rfl) ?_)
      | (refine wpList_load_row_ rfl 25 (.tmp 2) rfl ⟨g, 0, none⟩ rfl ([.slice pa P pc, .slice ka K kc]) _ (fun j v hv => hx02.cell (HC.out j v hv)) Try.underlying25 rfl (by kernel_rfl) ?_)
      | (go_at_call 11; (with_reducible refine (HPT.out _ (Hh.out.ext (hx0.trans hx02))).mono ?_); rintro e w3 ⟨⟨v3, rfl, own3⟩, hx3⟩; have hx03 := hx02.trans hx3)
      | (go_at_call 17; (with_reducible refine (rgoodTree_calls t pa ka P K pc kc _ (Hh.out.ext (hx0.trans hx03))).mono ?_); rintro e w4 ⟨rfl, hx4⟩))
    have hx04 := hx03.trans hx4
    have hw4 := hx0.trans hx04
    obtain ⟨n3, hn3⟩ : ∃ n3, BT.length = n3 := ⟨_, rfl⟩
    obtain ⟨A3, k3, e3, l3, _, _⟩ := Own.form_at own3 hn3
    subst e3
    have HN3 := Lib.hid hn3
    have HO3 := Lib.hid (own3.ext hx4)
    clear own3 hn3
    have Hb4 := Lib.hid (Hbx.out.ext hx04)
    have Hh4 := Lib.hid (Hh.out.ext hw4)
    have Hbs := Lib.hid (hb.ext hw4)
    have HGD := Lib.hid (fun u h' => goodTree_calls t pa ka P K pc kc u h')
    cases hgt : t.good with
    | true =>
      obtain rfl : BT = t.bytes := by have := HBT.out; rwa [hgt] at this
      obtain rfl : eT = 0 := by have := HeT.out; rwa [hgt] at this
      rw [hgt] at HGD
      refine wp_region_ops (FInv [28, 29, 30, 31, 32, 33, 34, 35, 36, 37, 38, 39, 40, 41, 42, 43, 44, 45, 46, 47, 48, 49, 50, 51, 52, 53, 54, 55, 56, 57, 58, 59, 60] _ w4.drew [⟨0, none, 28, .val (.agg #[.slice pa P pc, .slice ka K kc])⟩, ⟨1, none, 29, .val (.bool true)⟩, ⟨2, none, 30, .val (.bool true)⟩, ⟨3, none, 31, .val (.bool false)⟩, ⟨4, none, 32, .val (.bool false)⟩, ⟨5, none, 33, .val (.int .i64 0)⟩, ⟨6, none, 34, .val (.bool true)⟩, ⟨7, none, 35, .val (.bool true)⟩, ⟨8, none, 36, .val (.bool false)⟩, ⟨9, none, 37, .val (.bool false)⟩, ⟨10, none, 38, .val (.bool false)⟩, ⟨11, none, 39, .val (.bool true)⟩, ⟨12, none, 40, .val (.bool true)⟩, ⟨13, none, 41, .val (.slice A3 n3 k3)⟩, ⟨14, none, 42, .val (.string (bstr t.bytes))⟩, ⟨15, none, 43, .val (.agg #[.slice pa P pc, .slice ka K kc])⟩, ⟨16, none, 44, .val (.string (bstr t.bytes))⟩, ⟨17, none, 45, .val (.bool false)⟩, ⟨18, none, 46, .val (.bool false)⟩, ⟨19, none, 47, .val (.bool false)⟩, ⟨20, none, 48, .val (.bool false)⟩, ⟨21, none, 49, .val (.bool true)⟩, ⟨22, none, 50, .val (.bool false)⟩, ⟨23, none, 51, .val (.bool false)⟩, ⟨24, none, 52, .val undef⟩, ⟨25, none, 53, .val undef⟩, ⟨26, none, 54, .val undef⟩, ⟨27, none, 55, .val undef⟩, ⟨28, none, 56, .val undef⟩, ⟨29, none, 57, .val undef⟩, ⟨30, none, 58, .val undef⟩, ⟨31, none, 59, .val (.bool false)⟩, ⟨32, none, 60, .val (.bool false)⟩]) (by kernel_rfl) (by kernel_rfl) FInv.start ?_ ?_
      · refine ⟨?o0, ?o1, ?o2, ?o3, ?o4, ?o5, ?o6, ?o7, ?o8, ?o9, ?o10, ?o11, ?o12, ?o13, ?o14, ?o15, ?o16, ?o17, ?o18, ?o19, ?o20, ?o21, ?o22, ?o23, ?o24, ?o25, ?o26, ?o27, ?o28, ?o29, ?o30, ?o31, ?o32, trivial⟩
        case o0 =>
          intro f a u h hfi hp hq
          have hyu : Ext w4 u := ((Ext.refl w4).drew).trans h.ext
          exact h.yieldG rfl (wanted_none rfl) 28 rfl (by change 28 < 88; decide) rfl _ rfl (run_of_sem rfl (by rw [(show a.eval (.tmp 2) = .pointer (some ⟨g, 0, none⟩) from h.agree.eval (by decide))]; exact run_load_blk (Hb4.out.ext hyu) Try.underlying25 rfl (by kernel_rfl)))
        case o1 =>
          intro f a u h hfi hp hq
          have hyu : Ext w4 u := ((Ext.refl w4).drew).trans h.ext
          exact h.callG rfl (wanted_none rfl) 29 rfl (by change 29 < 88; decide) rfl _ rfl 18 #[.tmp 28] #[25] _ rfl (by kernel_rfl) (by rw [arr1, h.at_ 0 rfl (pre_of hp 0 rfl)]) (HGD.out u (Hh4.out.ext hyu))
        case o2 =>
          intro f a u h hfi hp hq
          have q7 : a.tmps[7]?.getD undef = .bool true := h.agree.att (by decide)
          exact h.yieldG rfl (wanted_none rfl) 30 rfl (by change 30 < 88; decide) rfl _ rfl (by go_simp)
        case o3 =>
          intro f a u h hfi hp hq
          have q29 := h.att 1 rfl (pre_of hp 1 rfl)
          have q30 := h.att 2 rfl (pre_of hp 2 rfl)
          exact h.yieldG rfl (wanted_none rfl) 31 rfl (by change 31 < 88; decide) rfl _ rfl (by go_simp)
        case o4 =>
          intro f a u h hfi hp hq
          have q31 := h.att 3 rfl (pre_of hp 3 rfl)
          exact h.yieldG rfl (wanted_none rfl) 32 rfl (by change 32 < 88; decide) rfl _ rfl (by go_simp)
        case o5 =>
          intro f a u h hfi hp hq
          have q6 : a.tmps[6]?.getD undef = .int .i64 0 := h.agree.att (by decide)
          exact h.yieldG rfl (wanted_yes (g := 4) (d' := 32) rfl rfl (h.at_ 4 rfl (pre_of hp 4 rfl))) 33 rfl (by change 33 < 88; decide) rfl _ rfl (by go_simp)
        case o6 =>
          intro f a u h hfi hp hq
          have q33 := h.att 5 rfl (pre_of hp 5 rfl)
          exact h.yieldG rfl (wanted_yes (g := 4) (d' := 32) rfl rfl (h.at_ 4 rfl (pre_of hp 4 rfl))) 34 rfl (by change 34 < 88; decide) rfl _ rfl (by go_simp)
        case o7 =>
          intro f a u h hfi hp hq
          have q7 : a.tmps[7]?.getD undef = .bool true := h.agree.att (by decide)
          exact h.yieldG rfl (wanted_yes (g := 4) (d' := 32) rfl rfl (h.at_ 4 rfl (pre_of hp 4 rfl))) 35 rfl (by change 35 < 88; decide) rfl _ rfl (by go_simp)
        case o8 =>
          intro f a u h hfi hp hq
          have q34 := h.att 6 rfl (pre_of hp 6 rfl)
          have q35 := h.att 7 rfl (pre_of hp 7 rfl)
          exact h.yieldG rfl (wanted_yes (g := 4) (d' := 32) rfl rfl (h.at_ 4 rfl (pre_of hp 4 rfl))) 36 rfl (by change 36 < 88; decide) rfl _ rfl (by go_simp)
        case o9 =>
          intro f a u h hfi hp hq
          have q32 := h.att 4 rfl (pre_of hp 4 rfl)
          have q36 := h.att 8 rfl (pre_of hp 8 rfl)
          exact h.yieldG rfl (wanted_none rfl) 37 rfl (by change 37 < 88; decide) rfl _ rfl (by go_simp)
        case o10 =>
          intro f a u h hfi hp hq
          have q37 := h.att 9 rfl (pre_of hp 9 rfl)
          exact h.yieldG rfl (wanted_none rfl) 38 rfl (by change 38 < 88; decide) rfl _ rfl (by go_simp)
        case o11 =>
          intro f a u h hfi hp hq
          have q7 : a.tmps[7]?.getD undef = .bool true := h.agree.att (by decide)
          exact h.yieldG rfl (wanted_yes (g := 10) (d' := 38) rfl rfl (h.at_ 10 rfl (pre_of hp 10 rfl))) 39 rfl (by change 39 < 88; decide) rfl _ rfl (by go_simp)
        case o12 =>
          intro f a u h hfi hp hq
          have q39 := h.att 11 rfl (pre_of hp 11 rfl)
          exact h.yieldG rfl (wanted_yes (g := 10) (d' := 38) rfl rfl (h.at_ 10 rfl (pre_of hp 10 rfl))) 40 rfl (by change 40 < 88; decide) rfl _ rfl (by go_simp)
        case o13 =>
          intro f a u h hfi hp hq
          have q5 : a.tmps[5]?.getD undef = .slice A3 n3 k3 := h.agree.att (by decide)
          exact h.yieldG rfl (wanted_yes (g := 12) (d' := 40) rfl rfl (h.at_ 12 rfl (pre_of hp 12 rfl))) 41 rfl (by change 41 < 88; decide) rfl _ rfl (by go_simp)
        case o14 =>
          intro f a u h hfi hp hq
          have hyu : Ext w4 u := ((Ext.refl w4).drew).trans h.ext
          exact h.yieldG rfl (wanted_yes (g := 12) (d' := 40) rfl rfl (h.at_ 12 rfl (pre_of hp 12 rfl))) 42 rfl (by change 42 < 88; decide) rfl _ rfl (run_of_sem rfl (by rw [h.at_ 13 rfl (pre_of hp 13 rfl)]; exact conv_str (P := Try.prog) Try.underlying35 Try.underlying5 Try.underlying9 HN3.out (HO3.out.ext hyu).cells))
        case o15 =>
          intro f a u h hfi hp hq
          have hyu : Ext w4 u := ((Ext.refl w4).drew).trans h.ext
          exact h.yieldG rfl (wanted_yes (g := 12) (d' := 40) rfl rfl (h.at_ 12 rfl (pre_of hp 12 rfl))) 43 rfl (by change 43 < 88; decide) rfl _ rfl (run_of_sem rfl (by rw [(show a.eval (.tmp 2) = .pointer (some ⟨g, 0, none⟩) from h.agree.eval (by decide))]; exact run_load_blk (Hb4.out.ext hyu) Try.underlying25 rfl (by kernel_rfl)))
        case o16 =>
          intro f a u h hfi hp hq
          have hyu : Ext w4 u := ((Ext.refl w4).drew).trans h.ext
          exact h.callG rfl (wanted_yes (g := 12) (d' := 40) rfl rfl (h.at_ 12 rfl (pre_of hp 12 rfl))) 44 rfl (by change 44 < 88; decide) rfl _ rfl 15 #[.tmp 43] #[25] _ rfl (by kernel_rfl) (by rw [arr1, h.at_ 15 rfl (pre_of hp 15 rfl)]) (rtree_calls t pa ka P K pc kc u (Hh4.out.ext hyu) hgt)
        case o17 =>
          intro f a u h hfi hp hq
          have q42 := h.att 14 rfl (pre_of hp 14 rfl)
          have q44 := h.att 16 rfl (pre_of hp 16 rfl)
          exact h.yieldG rfl (wanted_yes (g := 12) (d' := 40) rfl rfl (h.at_ 12 rfl (pre_of hp 12 rfl))) 45 rfl (by change 45 < 88; decide) rfl _ rfl (by go_simp)
        case o18 =>
          intro f a u h hfi hp hq
          have q40 := h.att 12 rfl (pre_of hp 12 rfl)
          have q45 := h.att 17 rfl (pre_of hp 17 rfl)
          exact h.yieldG rfl (wanted_yes (g := 10) (d' := 38) rfl rfl (h.at_ 10 rfl (pre_of hp 10 rfl))) 46 rfl (by change 46 < 88; decide) rfl _ rfl (by go_simp)
        case o19 =>
          intro f a u h hfi hp hq
          have q38 := h.att 10 rfl (pre_of hp 10 rfl)
          have q46 := h.att 18 rfl (pre_of hp 18 rfl)
          exact h.yieldG rfl (wanted_none rfl) 47 rfl (by change 47 < 88; decide) rfl _ rfl (by go_simp)
        case o20 =>
          intro f a u h hfi hp hq
          have q47 := h.att 19 rfl (pre_of hp 19 rfl)
          exact h.yieldG rfl (wanted_none rfl) 48 rfl (by change 48 < 88; decide) rfl _ rfl (by go_simp)
        case o21 =>
          intro f a u h hfi hp hq
          have q7 : a.tmps[7]?.getD undef = .bool true := h.agree.att (by decide)
          exact h.yieldG rfl (wanted_yes (g := 20) (d' := 48) rfl rfl (h.at_ 20 rfl (pre_of hp 20 rfl))) 49 rfl (by change 49 < 88; decide) rfl _ rfl (by go_simp)
        case o22 =>
          intro f a u h hfi hp hq
          have q49 := h.att 21 rfl (pre_of hp 21 rfl)
          exact h.yieldG rfl (wanted_yes (g := 20) (d' := 48) rfl rfl (h.at_ 20 rfl (pre_of hp 20 rfl))) 50 rfl (by change 50 < 88; decide) rfl _ rfl (by go_simp)
        case o23 =>
          intro f a u h hfi hp hq
          have q50 := h.att 22 rfl (pre_of hp 22 rfl)
          exact h.yieldG rfl (wanted_yes (g := 20) (d' := 48) rfl rfl (h.at_ 20 rfl (pre_of hp 20 rfl))) 51 rfl (by change 51 < 88; decide) rfl _ rfl (by go_simp)
        case o24 =>
          intro f a u h hfi hp hq
          exact h.skipG rfl (wanted_not (g := 23) (d' := 51) rfl rfl (h.at_ 23 rfl (pre_of hp 23 rfl)) rfl) 52 rfl (by change 52 < 88; decide) rfl rfl
        case o25 =>
          intro f a u h hfi hp hq
          exact h.skipG rfl (wanted_not (g := 23) (d' := 51) rfl rfl (h.at_ 23 rfl (pre_of hp 23 rfl)) rfl) 53 rfl (by change 53 < 88; decide) rfl rfl
        case o26 =>
          intro f a u h hfi hp hq
          exact h.skipG rfl (wanted_not (g := 23) (d' := 51) rfl rfl (h.at_ 23 rfl (pre_of hp 23 rfl)) rfl) 54 rfl (by change 54 < 88; decide) rfl rfl
        case o27 =>
          intro f a u h hfi hp hq
          exact h.skipG rfl (wanted_undef (g := 26) (d' := 54) rfl rfl (h.at_ 26 rfl (pre_of hp 26 rfl))) 55 rfl (by change 55 < 88; decide) rfl rfl
        case o28 =>
          intro f a u h hfi hp hq
          exact h.skipG rfl (wanted_undef (g := 26) (d' := 54) rfl rfl (h.at_ 26 rfl (pre_of hp 26 rfl))) 56 rfl (by change 56 < 88; decide) rfl rfl
        case o29 =>
          intro f a u h hfi hp hq
          exact h.skipG rfl (wanted_undef (g := 26) (d' := 54) rfl rfl (h.at_ 26 rfl (pre_of hp 26 rfl))) 57 rfl (by change 57 < 88; decide) rfl rfl
        case o30 =>
          intro f a u h hfi hp hq
          exact h.skipG rfl (wanted_not (g := 23) (d' := 51) rfl rfl (h.at_ 23 rfl (pre_of hp 23 rfl)) rfl) 58 rfl (by change 58 < 88; decide) rfl rfl
        case o31 =>
          intro f a u h hfi hp hq
          have q51 := h.att 23 rfl (pre_of hp 23 rfl)
          have q58 := h.att 30 rfl (pre_of hp 30 rfl)
          exact h.yieldG rfl (wanted_yes (g := 20) (d' := 48) rfl rfl (h.at_ 20 rfl (pre_of hp 20 rfl))) 59 rfl (by change 59 < 88; decide) rfl _ rfl (by go_simp)
        case o32 =>
          intro f a u h hfi hp hq
          have q48 := h.att 20 rfl (pre_of hp 20 rfl)
          have q59 := h.att 31 rfl (pre_of hp 31 rfl)
          exact h.yieldG rfl (wanted_none rfl) 60 rfl (by change 60 < 88; decide) rfl _ rfl (by go_simp)
      · intro f a u h hall hfar
        have hyu : Ext w4 u := ((Ext.refl w4).drew).trans h.ext
        have e60 := h.at_ 32 rfl (hall 32 (by decide))
        have hag := h.agree.out
        simp only [List.foldl_cons, List.foldl_nil, Act.put, List.setIfInBounds_toArray, List.set_cons_zero, List.set_cons_succ, e60] at hag
        generalize a.eval (.tmp 28) = y28 at hag
        generalize a.eval (.tmp 29) = y29 at hag
        generalize a.eval (.tmp 30) = y30 at hag
        generalize a.eval (.tmp 31) = y31 at hag
        generalize a.eval (.tmp 32) = y32 at hag
        generalize a.eval (.tmp 33) = y33 at hag
        generalize a.eval (.tmp 34) = y34 at hag
        generalize a.eval (.tmp 35) = y35 at hag
        generalize a.eval (.tmp 36) = y36 at hag
        generalize a.eval (.tmp 37) = y37 at hag
        generalize a.eval (.tmp 38) = y38 at hag
        generalize a.eval (.tmp 39) = y39 at hag
        generalize a.eval (.tmp 40) = y40 at hag
        generalize a.eval (.tmp 41) = y41 at hag
        generalize a.eval (.tmp 42) = y42 at hag
        generalize a.eval (.tmp 43) = y43 at hag
        generalize a.eval (.tmp 44) = y44 at hag
        generalize a.eval (.tmp 45) = y45 at hag
        generalize a.eval (.tmp 46) = y46 at hag
        generalize a.eval (.tmp 47) = y47 at hag
        generalize a.eval (.tmp 48) = y48 at hag
        generalize a.eval (.tmp 49) = y49 at hag
        generalize a.eval (.tmp 50) = y50 at hag
        generalize a.eval (.tmp 51) = y51 at hag
        generalize a.eval (.tmp 52) = y52 at hag
        generalize a.eval (.tmp 53) = y53 at hag
        generalize a.eval (.tmp 54) = y54 at hag
        generalize a.eval (.tmp 55) = y55 at hag
        generalize a.eval (.tmp 56) = y56 at hag
        generalize a.eval (.tmp 57) = y57 at hag
        generalize a.eval (.tmp 58) = y58 at hag
        generalize a.eval (.tmp 59) = y59 at hag
        clear h hall hfar e60
        subst hag
        have hwu := hw4.trans hyu
        have HBU := Lib.hid (Hbs.out.ext hyu)
        cases hds : (decT bs).isSome with
        | true =>
          have hgt1 := getTree_calls A n c bs u HBU.out Hn.out Hl.out
          have hcv := conv_str (P := Try.prog) Try.underlying35 Try.underlying5 Try.underlying9 (c := c) Hn.out HBU.out
          have hgt2 := fun w' => rgetTree_calls bs w' (by rw [Hn.out]; exact Hl.out)
          obtain ⟨DD, hDD⟩ : ∃ DD, DD = (decT bs).getD trZ := ⟨_, rfl⟩
          unfold TrPost at hgt1 hgt2
          simp only [hds, ← hDD, fErr, fOk, if_true, if_false, Bool.false_eq_true] at hgt1 hgt2
          have HG1 := Lib.hid hgt1
          have HG2 := Lib.hid hgt2
          clear hgt1 hgt2 hDD
          go_upto_region 11 with (first
            | (go_at_call 19; (with_reducible refine (HG1.out).mono ?_); rintro e w5 ⟨a1, k1, P1, K1, c1, d1, rfl, hN1, hx5⟩; have Hcv := Lib.hid (conv_str (P := Try.prog) Try.underlying35 Try.underlying5 Try.underlying9 (c := c) Hn.out (HBU.out.ext hx5)))
            | (go_at_call 20; (with_reducible refine (HG2.out _).mono ?_); rintro e w7 ⟨a2, k2, P2, K2, c2, d2, rfl, hN2, hx6⟩)
            | (refine wpList_store_blk rfl 25 (.tmp 8) (.tmp 64) rfl rfl w5.heap.size #[.slice a1 P1 c1, .slice k1 K1 d1] rfl rfl _ _ (Blk.new_at rfl _ _) rfl (by kernel_rfl) (by simp [Value.oneCell']) ?_; intro w6 hb6 hg6; have hx56 : Ext w5 w6 := ((Ext.refl _).alloc _).grown_ hg6 (by simp); have hcv6 := conv_str (P := Try.prog) Try.underlying35 Try.underlying5 Try.underlying9 (c := c) Hn.out (HBU.out.ext (hx5.trans hx56)))
            | (refine wpList_store_blk rfl 25 (.tmp 10) (.tmp 70) rfl rfl w7.heap.size #[.slice a2 P2 c2, .slice k2 K2 d2] rfl rfl _ _ (Blk.new_at rfl _ _) rfl (by kernel_rfl) (by simp [Value.oneCell']) ?_; intro w8 hb8 hg8; have hx78 : Ext w7 w8 := ((Ext.refl _).alloc _).grown_ hg8 (by simp)))
          have hb68 := (hb6.ext hx6).ext hx78
          have hx58 := hx56.trans (hx6.trans hx78)
          obtain rfl : P2 = P1 := hN2.hp.symm.trans hN1.hp
          obtain rfl : K2 = K1 := hN2.hk.symm.trans hN1.hk
          go_wp2_with (first
            | (refine wpList_load_row_g (g := 11) (d' := 83) rfl rfl rfl 25 (.tmp 8) rfl ⟨w5.heap.size, 0, none⟩ rfl ([.slice a1 P2 c1, .slice k1 K2 d1]) _ (blk_row hb68) Try.underlying25 rfl (by kernel_rfl) ?_)
            | (refine wpList_load_row_g (g := 11) (d' := 83) rfl rfl rfl 25 (.tmp 10) rfl ⟨w7.heap.size, 0, none⟩ rfl ([.slice a2 P2 c2, .slice k2 K2 d2]) _ (blk_row hb8) Try.underlying25 rfl (by kernel_rfl) ?_)
            | (go_at_call 13; (with_reducible refine (sameTree_calls DD a1 k1 a2 k2 P2 K2 c1 d1 c2 d2 _ (hN1.ext hx58) (hN2.ext hx78)).mono ?_); rintro e w9 ⟨rfl, hx9⟩))
          go_ret
          exact ⟨rfl, ((hwu.trans hx5).trans hx58).trans hx9⟩
        | false =>
          have hgt1 := getTree_calls A n c bs u HBU.out Hn.out Hl.out
          have hcv := conv_str (P := Try.prog) Try.underlying35 Try.underlying5 Try.underlying9 (c := c) Hn.out HBU.out
          have hgt2 := fun w' => rgetTree_calls bs w' (by rw [Hn.out]; exact Hl.out)
          obtain ⟨DD, hDD⟩ : ∃ DD, DD = (decT bs).getD trZ := ⟨_, rfl⟩
          unfold TrPost at hgt1 hgt2
          simp only [hds, ← hDD, fErr, fOk, if_true, if_false, Bool.false_eq_true] at hgt1 hgt2
          have HG1 := Lib.hid hgt1
          have HG2 := Lib.hid hgt2
          clear hgt1 hgt2 hDD
          go_upto_region 11 with (first
            | (go_at_call 19; (with_reducible refine (HG1.out).mono ?_); rintro e w5 ⟨a1, k1, P1, K1, c1, d1, rfl, hN1, hx5⟩; have Hcv := Lib.hid (conv_str (P := Try.prog) Try.underlying35 Try.underlying5 Try.underlying9 (c := c) Hn.out (HBU.out.ext hx5)))
            | (go_at_call 20; (with_reducible refine (HG2.out _).mono ?_); rintro e w7 ⟨a2, k2, P2, K2, c2, d2, rfl, hN2, hx6⟩)
            | (refine wpList_store_blk rfl 25 (.tmp 8) (.tmp 64) rfl rfl w5.heap.size #[.slice a1 P1 c1, .slice k1 K1 d1] rfl rfl _ _ (Blk.new_at rfl _ _) rfl (by kernel_rfl) (by simp [Value.oneCell']) ?_; intro w6 hb6 hg6; have hx56 : Ext w5 w6 := ((Ext.refl _).alloc _).grown_ hg6 (by simp); have hcv6 := conv_str (P := Try.prog) Try.underlying35 Try.underlying5 Try.underlying9 (c := c) Hn.out (HBU.out.ext (hx5.trans hx56)))
            | (refine wpList_store_blk rfl 25 (.tmp 10) (.tmp 70) rfl rfl w7.heap.size #[.slice a2 P2 c2, .slice k2 K2 d2] rfl rfl _ _ (Blk.new_at rfl _ _) rfl (by kernel_rfl) (by simp [Value.oneCell']) ?_; intro w8 hb8 hg8; have hx78 : Ext w7 w8 := ((Ext.refl _).alloc _).grown_ hg8 (by simp)))
          have hb68 := (hb6.ext hx6).ext hx78
          have hx58 := hx56.trans (hx6.trans hx78)
          obtain rfl : P2 = P1 := hN2.hp.symm.trans hN1.hp
          obtain rfl : K2 = K1 := hN2.hk.symm.trans hN1.hk
          go_wp2_with (first
            | (refine wpList_load_row_g (g := 11) (d' := 83) rfl rfl rfl 25 (.tmp 8) rfl ⟨w5.heap.size, 0, none⟩ rfl ([.slice a1 P2 c1, .slice k1 K2 d1]) _ (blk_row hb68) Try.underlying25 rfl (by kernel_rfl) ?_)
            | (refine wpList_load_row_g (g := 11) (d' := 83) rfl rfl rfl 25 (.tmp 10) rfl ⟨w7.heap.size, 0, none⟩ rfl ([.slice a2 P2 c2, .slice k2 K2 d2]) _ (blk_row hb8) Try.underlying25 rfl (by kernel_rfl) ?_)
            | (go_at_call 13; (with_reducible refine (sameTree_calls DD a1 k1 a2 k2 P2 K2 c1 d1 c2 d2 _ (hN1.ext hx58) (hN2.ext hx78)).mono ?_); rintro e w9 ⟨rfl, hx9⟩))
          go_ret
          exact ⟨rfl, ((hwu.trans hx5).trans hx58).trans hx9⟩
    | false =>
      obtain rfl : BT = [] := by have := HBT.out; rwa [hgt] at this
      obtain rfl : eT = 1 := by have := HeT.out; rwa [hgt] at this
      rw [hgt] at HGD
      obtain rfl : n3 = 0 := HN3.out.symm
      refine wp_region_ops (FInv [28, 29, 30, 31, 32, 33, 34, 35, 36, 37, 38, 39, 40, 41, 42, 43, 44, 45, 46, 47, 48, 49, 50, 51, 52, 53, 54, 55, 56, 57, 58, 59, 60] _ w4.drew [⟨0, none, 28, .val (.agg #[.slice pa P pc, .slice ka K kc])⟩, ⟨1, none, 29, .val (.bool false)⟩, ⟨2, none, 30, .val (.bool false)⟩, ⟨3, none, 31, .val (.bool false)⟩, ⟨4, none, 32, .val (.bool false)⟩, ⟨5, none, 33, .val (.int .i64 1)⟩, ⟨6, none, 34, .val (.bool false)⟩, ⟨7, none, 35, .val (.bool false)⟩, ⟨8, none, 36, .val (.bool false)⟩, ⟨9, none, 37, .val (.bool false)⟩, ⟨10, none, 38, .val (.bool false)⟩, ⟨11, none, 39, .val (.bool false)⟩, ⟨12, none, 40, .val (.bool false)⟩, ⟨13, none, 41, .val undef⟩, ⟨14, none, 42, .val undef⟩, ⟨15, none, 43, .val undef⟩, ⟨16, none, 44, .val undef⟩, ⟨17, none, 45, .val undef⟩, ⟨18, none, 46, .val (.bool false)⟩, ⟨19, none, 47, .val (.bool false)⟩, ⟨20, none, 48, .val (.bool false)⟩, ⟨21, none, 49, .val (.bool false)⟩, ⟨22, none, 50, .val (.bool true)⟩, ⟨23, none, 51, .val (.bool true)⟩, ⟨24, none, 52, .val (.int .i64 1)⟩, ⟨25, none, 53, .val (.bool false)⟩, ⟨26, none, 54, .val (.bool false)⟩, ⟨27, none, 55, .val (.slice A3 0 k3)⟩, ⟨28, none, 56, .val (.int .i64 0)⟩, ⟨29, none, 57, .val (.bool false)⟩, ⟨30, none, 58, .val (.bool false)⟩, ⟨31, none, 59, .val (.bool false)⟩, ⟨32, none, 60, .val (.bool false)⟩]) (by kernel_rfl) (by kernel_rfl) FInv.start ?_ ?_
      · refine ⟨?o0, ?o1, ?o2, ?o3, ?o4, ?o5, ?o6, ?o7, ?o8, ?o9, ?o10, ?o11, ?o12, ?o13, ?o14, ?o15, ?o16, ?o17, ?o18, ?o19, ?o20, ?o21, ?o22, ?o23, ?o24, ?o25, ?o26, ?o27, ?o28, ?o29, ?o30, ?o31, ?o32, trivial⟩
        case o0 =>
          intro f a u h hfi hp hq
          have hyu : Ext w4 u := ((Ext.refl w4).drew).trans h.ext
          exact h.yieldG rfl (wanted_none rfl) 28 rfl (by change 28 < 88; decide) rfl _ rfl (run_of_sem rfl (by rw [(show a.eval (.tmp 2) = .pointer (some ⟨g, 0, none⟩) from h.agree.eval (by decide))]; exact run_load_blk (Hb4.out.ext hyu) Try.underlying25 rfl (by kernel_rfl)))
        case o1 =>
          intro f a u h hfi hp hq
          have hyu : Ext w4 u := ((Ext.refl w4).drew).trans h.ext
          exact h.callG rfl (wanted_none rfl) 29 rfl (by change 29 < 88; decide) rfl _ rfl 18 #[.tmp 28] #[25] _ rfl (by kernel_rfl) (by rw [arr1, h.at_ 0 rfl (pre_of hp 0 rfl)]) (HGD.out u (Hh4.out.ext hyu))
        case o2 =>
          intro f a u h hfi hp hq
          have q7 : a.tmps[7]?.getD undef = .bool false := h.agree.att (by decide)
          exact h.yieldG rfl (wanted_none rfl) 30 rfl (by change 30 < 88; decide) rfl _ rfl (by go_simp)
        case o3 =>
          intro f a u h hfi hp hq
          have q29 := h.att 1 rfl (pre_of hp 1 rfl)
          have q30 := h.att 2 rfl (pre_of hp 2 rfl)
          exact h.yieldG rfl (wanted_none rfl) 31 rfl (by change 31 < 88; decide) rfl _ rfl (by go_simp)
        case o4 =>
          intro f a u h hfi hp hq
          have q31 := h.att 3 rfl (pre_of hp 3 rfl)
          exact h.yieldG rfl (wanted_none rfl) 32 rfl (by change 32 < 88; decide) rfl _ rfl (by go_simp)
        case o5 =>
          intro f a u h hfi hp hq
          have q6 : a.tmps[6]?.getD undef = .int .i64 1 := h.agree.att (by decide)
          exact h.yieldG rfl (wanted_yes (g := 4) (d' := 32) rfl rfl (h.at_ 4 rfl (pre_of hp 4 rfl))) 33 rfl (by change 33 < 88; decide) rfl _ rfl (by go_simp)
        case o6 =>
          intro f a u h hfi hp hq
          have q33 := h.att 5 rfl (pre_of hp 5 rfl)
          exact h.yieldG rfl (wanted_yes (g := 4) (d' := 32) rfl rfl (h.at_ 4 rfl (pre_of hp 4 rfl))) 34 rfl (by change 34 < 88; decide) rfl _ rfl (by go_simp)
        case o7 =>
          intro f a u h hfi hp hq
          have q7 : a.tmps[7]?.getD undef = .bool false := h.agree.att (by decide)
          exact h.yieldG rfl (wanted_yes (g := 4) (d' := 32) rfl rfl (h.at_ 4 rfl (pre_of hp 4 rfl))) 35 rfl (by change 35 < 88; decide) rfl _ rfl (by go_simp)
        case o8 =>
          intro f a u h hfi hp hq
          have q34 := h.att 6 rfl (pre_of hp 6 rfl)
          have q35 := h.att 7 rfl (pre_of hp 7 rfl)
          exact h.yieldG rfl (wanted_yes (g := 4) (d' := 32) rfl rfl (h.at_ 4 rfl (pre_of hp 4 rfl))) 36 rfl (by change 36 < 88; decide) rfl _ rfl (by go_simp)
        case o9 =>
          intro f a u h hfi hp hq
          have q32 := h.att 4 rfl (pre_of hp 4 rfl)
          have q36 := h.att 8 rfl (pre_of hp 8 rfl)
          exact h.yieldG rfl (wanted_none rfl) 37 rfl (by change 37 < 88; decide) rfl _ rfl (by go_simp)
        case o10 =>
          intro f a u h hfi hp hq
          have q37 := h.att 9 rfl (pre_of hp 9 rfl)
          exact h.yieldG rfl (wanted_none rfl) 38 rfl (by change 38 < 88; decide) rfl _ rfl (by go_simp)
        case o11 =>
          intro f a u h hfi hp hq
          have q7 : a.tmps[7]?.getD undef = .bool false := h.agree.att (by decide)
          exact h.yieldG rfl (wanted_yes (g := 10) (d' := 38) rfl rfl (h.at_ 10 rfl (pre_of hp 10 rfl))) 39 rfl (by change 39 < 88; decide) rfl _ rfl (by go_simp)
        case o12 =>
          intro f a u h hfi hp hq
          have q39 := h.att 11 rfl (pre_of hp 11 rfl)
          exact h.yieldG rfl (wanted_yes (g := 10) (d' := 38) rfl rfl (h.at_ 10 rfl (pre_of hp 10 rfl))) 40 rfl (by change 40 < 88; decide) rfl _ rfl (by go_simp)
        case o13 =>
          intro f a u h hfi hp hq
          exact h.skipG rfl (wanted_not (g := 12) (d' := 40) rfl rfl (h.at_ 12 rfl (pre_of hp 12 rfl)) rfl) 41 rfl (by change 41 < 88; decide) rfl rfl
        case o14 =>
          intro f a u h hfi hp hq
          exact h.skipG rfl (wanted_not (g := 12) (d' := 40) rfl rfl (h.at_ 12 rfl (pre_of hp 12 rfl)) rfl) 42 rfl (by change 42 < 88; decide) rfl rfl
        case o15 =>
          intro f a u h hfi hp hq
          exact h.skipG rfl (wanted_not (g := 12) (d' := 40) rfl rfl (h.at_ 12 rfl (pre_of hp 12 rfl)) rfl) 43 rfl (by change 43 < 88; decide) rfl rfl
        case o16 =>
          intro f a u h hfi hp hq
          exact h.skipG rfl (wanted_not (g := 12) (d' := 40) rfl rfl (h.at_ 12 rfl (pre_of hp 12 rfl)) rfl) 44 rfl (by change 44 < 88; decide) rfl rfl
        case o17 =>
          intro f a u h hfi hp hq
          exact h.skipG rfl (wanted_not (g := 12) (d' := 40) rfl rfl (h.at_ 12 rfl (pre_of hp 12 rfl)) rfl) 45 rfl (by change 45 < 88; decide) rfl rfl
        case o18 =>
          intro f a u h hfi hp hq
          have q40 := h.att 12 rfl (pre_of hp 12 rfl)
          have q45 := h.att 17 rfl (pre_of hp 17 rfl)
          exact h.yieldG rfl (wanted_yes (g := 10) (d' := 38) rfl rfl (h.at_ 10 rfl (pre_of hp 10 rfl))) 46 rfl (by change 46 < 88; decide) rfl _ rfl (by go_simp)
        case o19 =>
          intro f a u h hfi hp hq
          have q38 := h.att 10 rfl (pre_of hp 10 rfl)
          have q46 := h.att 18 rfl (pre_of hp 18 rfl)
          exact h.yieldG rfl (wanted_none rfl) 47 rfl (by change 47 < 88; decide) rfl _ rfl (by go_simp)
        case o20 =>
          intro f a u h hfi hp hq
          have q47 := h.att 19 rfl (pre_of hp 19 rfl)
          exact h.yieldG rfl (wanted_none rfl) 48 rfl (by change 48 < 88; decide) rfl _ rfl (by go_simp)
        case o21 =>
          intro f a u h hfi hp hq
          have q7 : a.tmps[7]?.getD undef = .bool false := h.agree.att (by decide)
          exact h.yieldG rfl (wanted_yes (g := 20) (d' := 48) rfl rfl (h.at_ 20 rfl (pre_of hp 20 rfl))) 49 rfl (by change 49 < 88; decide) rfl _ rfl (by go_simp)
        case o22 =>
          intro f a u h hfi hp hq
          have q49 := h.att 21 rfl (pre_of hp 21 rfl)
          exact h.yieldG rfl (wanted_yes (g := 20) (d' := 48) rfl rfl (h.at_ 20 rfl (pre_of hp 20 rfl))) 50 rfl (by change 50 < 88; decide) rfl _ rfl (by go_simp)
        case o23 =>
          intro f a u h hfi hp hq
          have q50 := h.att 22 rfl (pre_of hp 22 rfl)
          exact h.yieldG rfl (wanted_yes (g := 20) (d' := 48) rfl rfl (h.at_ 20 rfl (pre_of hp 20 rfl))) 51 rfl (by change 51 < 88; decide) rfl _ rfl (by go_simp)
        case o24 =>
          intro f a u h hfi hp hq
          have q6 : a.tmps[6]?.getD undef = .int .i64 1 := h.agree.att (by decide)
          exact h.yieldG rfl (wanted_yes (g := 23) (d' := 51) rfl rfl (h.at_ 23 rfl (pre_of hp 23 rfl))) 52 rfl (by change 52 < 88; decide) rfl _ rfl (by go_simp)
        case o25 =>
          intro f a u h hfi hp hq
          have q52 := h.att 24 rfl (pre_of hp 24 rfl)
          exact h.yieldG rfl (wanted_yes (g := 23) (d' := 51) rfl rfl (h.at_ 23 rfl (pre_of hp 23 rfl))) 53 rfl (by change 53 < 88; decide) rfl _ rfl (by go_simp)
        case o26 =>
          intro f a u h hfi hp hq
          have q53 := h.att 25 rfl (pre_of hp 25 rfl)
          exact h.yieldG rfl (wanted_yes (g := 23) (d' := 51) rfl rfl (h.at_ 23 rfl (pre_of hp 23 rfl))) 54 rfl (by change 54 < 88; decide) rfl _ rfl (by go_simp)
        case o27 =>
          intro f a u h hfi hp hq
          have q5 : a.tmps[5]?.getD undef = .slice A3 0 k3 := h.agree.att (by decide)
          exact h.yieldG rfl (wanted_yes (g := 26) (d' := 54) rfl rfl (h.at_ 26 rfl (pre_of hp 26 rfl))) 55 rfl (by change 55 < 88; decide) rfl _ rfl (by go_simp)
        case o28 =>
          intro f a u h hfi hp hq
          have q55 := h.att 27 rfl (pre_of hp 27 rfl)
          exact h.yieldG rfl (wanted_yes (g := 26) (d' := 54) rfl rfl (h.at_ 26 rfl (pre_of hp 26 rfl))) 56 rfl (by change 56 < 88; decide) rfl _ rfl (by go_simp)
        case o29 =>
          intro f a u h hfi hp hq
          have q56 := h.att 28 rfl (pre_of hp 28 rfl)
          exact h.yieldG rfl (wanted_yes (g := 26) (d' := 54) rfl rfl (h.at_ 26 rfl (pre_of hp 26 rfl))) 57 rfl (by change 57 < 88; decide) rfl _ rfl (by go_simp)
        case o30 =>
          intro f a u h hfi hp hq
          have q54 := h.att 26 rfl (pre_of hp 26 rfl)
          have q57 := h.att 29 rfl (pre_of hp 29 rfl)
          exact h.yieldG rfl (wanted_yes (g := 23) (d' := 51) rfl rfl (h.at_ 23 rfl (pre_of hp 23 rfl))) 58 rfl (by change 58 < 88; decide) rfl _ rfl (by go_simp)
        case o31 =>
          intro f a u h hfi hp hq
          have q51 := h.att 23 rfl (pre_of hp 23 rfl)
          have q58 := h.att 30 rfl (pre_of hp 30 rfl)
          exact h.yieldG rfl (wanted_yes (g := 20) (d' := 48) rfl rfl (h.at_ 20 rfl (pre_of hp 20 rfl))) 59 rfl (by change 59 < 88; decide) rfl _ rfl (by go_simp)
        case o32 =>
          intro f a u h hfi hp hq
          have q48 := h.att 20 rfl (pre_of hp 20 rfl)
          have q59 := h.att 31 rfl (pre_of hp 31 rfl)
          exact h.yieldG rfl (wanted_none rfl) 60 rfl (by change 60 < 88; decide) rfl _ rfl (by go_simp)
      · intro f a u h hall hfar
        have hyu : Ext w4 u := ((Ext.refl w4).drew).trans h.ext
        have e60 := h.at_ 32 rfl (hall 32 (by decide))
        have hag := h.agree.out
        simp only [List.foldl_cons, List.foldl_nil, Act.put, List.setIfInBounds_toArray, List.set_cons_zero, List.set_cons_succ, e60] at hag
        generalize a.eval (.tmp 28) = y28 at hag
        generalize a.eval (.tmp 29) = y29 at hag
        generalize a.eval (.tmp 30) = y30 at hag
        generalize a.eval (.tmp 31) = y31 at hag
        generalize a.eval (.tmp 32) = y32 at hag
        generalize a.eval (.tmp 33) = y33 at hag
        generalize a.eval (.tmp 34) = y34 at hag
        generalize a.eval (.tmp 35) = y35 at hag
        generalize a.eval (.tmp 36) = y36 at hag
        generalize a.eval (.tmp 37) = y37 at hag
        generalize a.eval (.tmp 38) = y38 at hag
        generalize a.eval (.tmp 39) = y39 at hag
        generalize a.eval (.tmp 40) = y40 at hag
        generalize a.eval (.tmp 41) = y41 at hag
        generalize a.eval (.tmp 42) = y42 at hag
        generalize a.eval (.tmp 43) = y43 at hag
        generalize a.eval (.tmp 44) = y44 at hag
        generalize a.eval (.tmp 45) = y45 at hag
        generalize a.eval (.tmp 46) = y46 at hag
        generalize a.eval (.tmp 47) = y47 at hag
        generalize a.eval (.tmp 48) = y48 at hag
        generalize a.eval (.tmp 49) = y49 at hag
        generalize a.eval (.tmp 50) = y50 at hag
        generalize a.eval (.tmp 51) = y51 at hag
        generalize a.eval (.tmp 52) = y52 at hag
        generalize a.eval (.tmp 53) = y53 at hag
        generalize a.eval (.tmp 54) = y54 at hag
        generalize a.eval (.tmp 55) = y55 at hag
        generalize a.eval (.tmp 56) = y56 at hag
        generalize a.eval (.tmp 57) = y57 at hag
        generalize a.eval (.tmp 58) = y58 at hag
        generalize a.eval (.tmp 59) = y59 at hag
        clear h hall hfar e60
        subst hag
        have hwu := hw4.trans hyu
        have HBU := Lib.hid (Hbs.out.ext hyu)
        cases hds : (decT bs).isSome with
        | true =>
          have hgt1 := getTree_calls A n c bs u HBU.out Hn.out Hl.out
          have hcv := conv_str (P := Try.prog) Try.underlying35 Try.underlying5 Try.underlying9 (c := c) Hn.out HBU.out
          have hgt2 := fun w' => rgetTree_calls bs w' (by rw [Hn.out]; exact Hl.out)
          obtain ⟨DD, hDD⟩ : ∃ DD, DD = (decT bs).getD trZ := ⟨_, rfl⟩
          unfold TrPost at hgt1 hgt2
          simp only [hds, ← hDD, fErr, fOk, if_true, if_false, Bool.false_eq_true] at hgt1 hgt2
          have HG1 := Lib.hid hgt1
          have HG2 := Lib.hid hgt2
          clear hgt1 hgt2 hDD
          go_upto_region 11 with (first
            | (go_at_call 19; (with_reducible refine (HG1.out).mono ?_); rintro e w5 ⟨a1, k1, P1, K1, c1, d1, rfl, hN1, hx5⟩; have Hcv := Lib.hid (conv_str (P := Try.prog) Try.underlying35 Try.underlying5 Try.underlying9 (c := c) Hn.out (HBU.out.ext hx5)))
            | (go_at_call 20; (with_reducible refine (HG2.out _).mono ?_); rintro e w7 ⟨a2, k2, P2, K2, c2, d2, rfl, hN2, hx6⟩)
            | (refine wpList_store_blk rfl 25 (.tmp 8) (.tmp 64) rfl rfl w5.heap.size #[.slice a1 P1 c1, .slice k1 K1 d1] rfl rfl _ _ (Blk.new_at rfl _ _) rfl (by kernel_rfl) (by simp [Value.oneCell']) ?_; intro w6 hb6 hg6; have hx56 : Ext w5 w6 := ((Ext.refl _).alloc _).grown_ hg6 (by simp); have hcv6 := conv_str (P := Try.prog) Try.underlying35 Try.underlying5 Try.underlying9 (c := c) Hn.out (HBU.out.ext (hx5.trans hx56)))
            | (refine wpList_store_blk rfl 25 (.tmp 10) (.tmp 70) rfl rfl w7.heap.size #[.slice a2 P2 c2, .slice k2 K2 d2] rfl rfl _ _ (Blk.new_at rfl _ _) rfl (by kernel_rfl) (by simp [Value.oneCell']) ?_; intro w8 hb8 hg8; have hx78 : Ext w7 w8 := ((Ext.refl _).alloc _).grown_ hg8 (by simp)))
          have hb68 := (hb6.ext hx6).ext hx78
          have hx58 := hx56.trans (hx6.trans hx78)
          obtain rfl : P2 = P1 := hN2.hp.symm.trans hN1.hp
          obtain rfl : K2 = K1 := hN2.hk.symm.trans hN1.hk
          go_wp2_with (first
            | (refine wpList_load_row_g (g := 11) (d' := 83) rfl rfl rfl 25 (.tmp 8) rfl ⟨w5.heap.size, 0, none⟩ rfl ([.slice a1 P2 c1, .slice k1 K2 d1]) _ (blk_row hb68) Try.underlying25 rfl (by kernel_rfl) ?_)
            | (refine wpList_load_row_g (g := 11) (d' := 83) rfl rfl rfl 25 (.tmp 10) rfl ⟨w7.heap.size, 0, none⟩ rfl ([.slice a2 P2 c2, .slice k2 K2 d2]) _ (blk_row hb8) Try.underlying25 rfl (by kernel_rfl) ?_)
            | (go_at_call 13; (with_reducible refine (sameTree_calls DD a1 k1 a2 k2 P2 K2 c1 d1 c2 d2 _ (hN1.ext hx58) (hN2.ext hx78)).mono ?_); rintro e w9 ⟨rfl, hx9⟩))
          go_ret
          exact ⟨rfl, ((hwu.trans hx5).trans hx58).trans hx9⟩
        | false =>
          have hgt1 := getTree_calls A n c bs u HBU.out Hn.out Hl.out
          have hcv := conv_str (P := Try.prog) Try.underlying35 Try.underlying5 Try.underlying9 (c := c) Hn.out HBU.out
          have hgt2 := fun w' => rgetTree_calls bs w' (by rw [Hn.out]; exact Hl.out)
          obtain ⟨DD, hDD⟩ : ∃ DD, DD = (decT bs).getD trZ := ⟨_, rfl⟩
          unfold TrPost at hgt1 hgt2
          simp only [hds, ← hDD, fErr, fOk, if_true, if_false, Bool.false_eq_true] at hgt1 hgt2
          have HG1 := Lib.hid hgt1
          have HG2 := Lib.hid hgt2
          clear hgt1 hgt2 hDD
          go_upto_region 11 with (first
            | (go_at_call 19; (with_reducible refine (HG1.out).mono ?_); rintro e w5 ⟨a1, k1, P1, K1, c1, d1, rfl, hN1, hx5⟩; have Hcv := Lib.hid (conv_str (P := Try.prog) Try.underlying35 Try.underlying5 Try.underlying9 (c := c) Hn.out (HBU.out.ext hx5)))
            | (go_at_call 20; (with_reducible refine (HG2.out _).mono ?_); rintro e w7 ⟨a2, k2, P2, K2, c2, d2, rfl, hN2, hx6⟩)
            | (refine wpList_store_blk rfl 25 (.tmp 8) (.tmp 64) rfl rfl w5.heap.size #[.slice a1 P1 c1, .slice k1 K1 d1] rfl rfl _ _ (Blk.new_at rfl _ _) rfl (by kernel_rfl) (by simp [Value.oneCell']) ?_; intro w6 hb6 hg6; have hx56 : Ext w5 w6 := ((Ext.refl _).alloc _).grown_ hg6 (by simp); have hcv6 := conv_str (P := Try.prog) Try.underlying35 Try.underlying5 Try.underlying9 (c := c) Hn.out (HBU.out.ext (hx5.trans hx56)))
            | (refine wpList_store_blk rfl 25 (.tmp 10) (.tmp 70) rfl rfl w7.heap.size #[.slice a2 P2 c2, .slice k2 K2 d2] rfl rfl _ _ (Blk.new_at rfl _ _) rfl (by kernel_rfl) (by simp [Value.oneCell']) ?_; intro w8 hb8 hg8; have hx78 : Ext w7 w8 := ((Ext.refl _).alloc _).grown_ hg8 (by simp)))
          have hb68 := (hb6.ext hx6).ext hx78
          have hx58 := hx56.trans (hx6.trans hx78)
          obtain rfl : P2 = P1 := hN2.hp.symm.trans hN1.hp
          obtain rfl : K2 = K1 := hN2.hk.symm.trans hN1.hk
          go_wp2_with (first
            | (refine wpList_load_row_g (g := 11) (d' := 83) rfl rfl rfl 25 (.tmp 8) rfl ⟨w5.heap.size, 0, none⟩ rfl ([.slice a1 P2 c1, .slice k1 K2 d1]) _ (blk_row hb68) Try.underlying25 rfl (by kernel_rfl) ?_)
            | (refine wpList_load_row_g (g := 11) (d' := 83) rfl rfl rfl 25 (.tmp 10) rfl ⟨w7.heap.size, 0, none⟩ rfl ([.slice a2 P2 c2, .slice k2 K2 d2]) _ (blk_row hb8) Try.underlying25 rfl (by kernel_rfl) ?_)
            | (go_at_call 13; (with_reducible refine (sameTree_calls DD a1 k1 a2 k2 P2 K2 c1 d1 c2 d2 _ (hN1.ext hx58) (hN2.ext hx78)).mono ?_); rintro e w9 ⟨rfl, hx9⟩))
          go_ret
          exact ⟨rfl, ((hwu.trans hx5).trans hx58).trans hx9⟩
end Go.Proofs.Ythepbcomeimcnaa
