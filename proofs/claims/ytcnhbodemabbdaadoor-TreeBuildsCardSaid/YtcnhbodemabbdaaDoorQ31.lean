/- The walk of object.GoodTree. Printed by wip/mkobjgood.py. -/
import Derived.Test.YtcnhbodemabbdaaDoorQ24
import Derived.Test.YtcnhbodemabbdaaDoorQ26
namespace Go.Proofs.YtcnhbodemabbdaaDoor
open Go.RowKit
set_option linter.unusedVariables false

theorem prAt_get {ps : List Pr} {i : Nat} (h : i < ps.length) : prAt ps i = ps[i] := by unfold prAt; rw [List.getD_eq_getElem?_getD, List.getElem?_eq_getElem h]; rfl
theorem kdAt_get {ks : List Kd} {i : Nat} (h : i < ks.length) : kdAt ks i = ks[i] := by unfold kdAt; rw [List.getD_eq_getElem?_getD, List.getElem?_eq_getElem h]; rfl
theorem range_snoc {f : Nat → Bool} {k : Nat} (h : (List.range k).all f = true) (hk : f k = true) : (List.range (k + 1)).all f = true := by
  rw [List.range_succ, List.all_append, h]
  simp [hk]
theorem range_bad {f : Nat → Bool} {k n : Nat} (h : k < n) (hk : f k = false) : (List.range n).all f = false := by
  rw [List.all_eq_false]
  exact ⟨k, List.mem_range.2 h, by rw [hk]; simp⟩
set_option maxRecDepth 100000 in
set_option maxHeartbeats 8000000 in
theorem goodTree_bad (t : Tr) (pa ka : Option Addr) (P K pc kc : Nat) (w : World) (h : TrAt w t pa ka P K pc kc) (hs : 4 < P ∨ (P ≤ 4 ∧ 3 < K) ∨ (P ≤ 4 ∧ K ≤ 3 ∧ 0 < P ∧ 0 < K) ∨ (P = 0 ∧ K = 1)) :
    Calls Tryd.prog 83 #[tra pa P pc ka K kc] w fun e w' => e = .returned (.bool false) ∧ Ext w w' := by
  rcases hs with hs | ⟨h1, h2⟩ | ⟨h1, h2, h3, h4⟩ | ⟨rfl, rfl⟩
  · have Hh := Lib.hid h
    clear h
    go_enter Tryd.func83, Tryd.ntmps83
    have hbox : Blk (w.alloc (.cells #[.slice pa P pc, .slice ka K kc] 73)) w.heap.size 73 #[.slice pa P pc, .slice ka K kc] := Blk.new w _ _
    have hx0 : Ext w (w.alloc (.cells #[.slice pa P pc, .slice ka K kc] 73)) := (Ext.refl _).alloc _
    have Hbox := Lib.hid hbox
    obtain ⟨c0, c1⟩ := tree_cells hbox
    clear hbox
    go_wp2
    go_ret
    exact ⟨rfl, hx0⟩
  · have Hh := Lib.hid h
    clear h
    go_enter Tryd.func83, Tryd.ntmps83
    have hbox : Blk (w.alloc (.cells #[.slice pa P pc, .slice ka K kc] 73)) w.heap.size 73 #[.slice pa P pc, .slice ka K kc] := Blk.new w _ _
    have hx0 : Ext w (w.alloc (.cells #[.slice pa P pc, .slice ka K kc] 73)) := (Ext.refl _).alloc _
    have Hbox := Lib.hid hbox
    obtain ⟨c0, c1⟩ := tree_cells hbox
    clear hbox
    go_wp2
    go_ret
    exact ⟨rfl, hx0⟩
  · have Hh := Lib.hid h
    clear h
    go_enter Tryd.func83, Tryd.ntmps83
    have hbox : Blk (w.alloc (.cells #[.slice pa P pc, .slice ka K kc] 73)) w.heap.size 73 #[.slice pa P pc, .slice ka K kc] := Blk.new w _ _
    have hx0 : Ext w (w.alloc (.cells #[.slice pa P pc, .slice ka K kc] 73)) := (Ext.refl _).alloc _
    have Hbox := Lib.hid hbox
    obtain ⟨c0, c1⟩ := tree_cells hbox
    clear hbox
    go_wp2
    go_ret
    exact ⟨rfl, hx0⟩
  · have Hh := Lib.hid h
    clear h
    go_enter Tryd.func83, Tryd.ntmps83
    have hbox : Blk (w.alloc (.cells #[.slice pa 0 pc, .slice ka 1 kc] 73)) w.heap.size 73 #[.slice pa 0 pc, .slice ka 1 kc] := Blk.new w _ _
    have hx0 : Ext w (w.alloc (.cells #[.slice pa 0 pc, .slice ka 1 kc] 73)) := (Ext.refl _).alloc _
    have Hbox := Lib.hid hbox
    obtain ⟨c0, c1⟩ := tree_cells hbox
    clear hbox
    go_wp2
    go_ret
    exact ⟨rfl, hx0⟩

set_option maxRecDepth 100000 in
set_option maxHeartbeats 8000000 in
theorem goodTree_ok (t : Tr) (pa ka : Option Addr) (P K pc kc : Nat) (w : World) (h : TrAt w t pa ka P K pc kc) (hs : (P ≤ 4 ∧ 0 < P ∧ K = 0) ∨ (P = 0 ∧ K ≤ 3 ∧ K ≠ 1 ∧ 0 < K) ∨ (P = 0 ∧ K = 0)) :
    Calls Tryd.prog 83 #[tra pa P pc ka K kc] w fun e w' => e = .returned (.bool ((List.range t.pairs.length).all (prOk t.pairs) && (List.range t.kids.length).all (kdOk t.kids))) ∧ Ext w w' := by
  rcases hs with ⟨h1, h2, rfl⟩ | ⟨rfl, h2, h3, h4⟩ | ⟨rfl, rfl⟩
  · have Hh := Lib.hid h
    clear h
    go_enter Tryd.func83, Tryd.ntmps83
    have hbox : Blk (w.alloc (.cells #[.slice pa P pc, .slice ka 0 kc] 73)) w.heap.size 73 #[.slice pa P pc, .slice ka 0 kc] := Blk.new w _ _
    have hx0 : Ext w (w.alloc (.cells #[.slice pa P pc, .slice ka 0 kc] 73)) := (Ext.refl _).alloc _
    have Hbox := Lib.hid hbox
    obtain ⟨c0, c1⟩ := tree_cells hbox
    clear hbox
    go_wp2
    go_loopw [38] (fun i wr => ∃ k : Nat, k ≤ P ∧ i = .int .i64 k ∧ Aside ((List.range k).all (prOk t.pairs) = true) ∧ Ext (w.alloc (.cells #[.slice pa P pc, .slice ka 0 kc] 73)) wr) (fun i _ => P - (intOf i).toNat)
    case atStart => exact ⟨0, Nat.zero_le _, rfl, rfl, Ext.refl _⟩
    case round =>
      obtain ⟨k, hk, rfl, hA, hx⟩ := hrel
      clear c0 c1
      obtain ⟨c0, c1⟩ := tree_cells (Hbox.out.ext hx)
      by_cases hlt : k < P
      · have hkl : k < t.pairs.length := by rw [Hh.out.hp]; exact hlt
        obtain ⟨x, rfl, r0, r1⟩ := pr_row ((Hh.out.cp.ext hx0).ext hx) hkl
        obtain ⟨p, hp⟩ : ∃ p, p = t.pairs[k] := ⟨_, rfl⟩
        rw [← hp] at r0 r1
        have HP := Lib.hid hp
        clear hp
        have hlc : ∀ (j : Nat) (v : Value), (prC p)[j]? = some v → wr.cell? ((x.add (k * 2)).add j) = some v := by
          intro j v hj
          match j, hj with
          | 0, hj => cases hj; exact r0
          | 1, hj => cases hj; exact r1
          | n + 2, hj => cases hj
        go_wp2_with (first
          | (refine wpList_load_row_ rfl 65 (.tmp 41) rfl (x.add (k * 2)) rfl (prC p) _ hlc Tryd.underlying65 rfl pr_info ?_)
          | (refine wpList_store_blk rfl 65 (.tmp 4) (.tmp 42) rfl rfl wr.heap.size (prC p).toArray rfl rfl _ _ (Blk.new wr _ _) rfl (by kernel_rfl) (prC_one p) ?_; intro w3 hb3 hg3; have hx3 : Ext wr w3 := ((Ext.refl _).alloc _).grown_ hg3 (by simp)))
        clear hlc c0 c1 r0 r1
        obtain ⟨p0, p1⟩ := pair_cells hb3
        obtain ⟨c0, c1⟩ := tree_cells ((Hbox.out.ext hx).ext hx3)
        have hxx := hx.trans hx3
        have hxw := hx0.trans hxx
        have hok : prOk t.pairs k = (decide (p.1.size ≤ 16) && (decide (p.2.size ≤ 16) && (k == 0 || bslt (prAt t.pairs (k - 1)).1 p.1))) := by
          unfold prOk
          rw [prAt_get hkl, ← HP.out]
        have hno : prOk t.pairs k = false → ((List.range t.pairs.length).all (prOk t.pairs) && (List.range t.kids.length).all (kdOk t.kids)) = false := fun hf => by rw [range_bad hkl hf, Bool.false_and]
        have HOK := Lib.hid hok
        have HNO := Lib.hid hno
        clear hok hno hg3 hb3 hx3
        by_cases h16 : 16 < p.1.size
        · have hz : (16 : Int) < (p.1.size : Int) := by omega
          have HF := Lib.hid (HNO.out (by rw [HOK.out, decide_eq_false (by omega), Bool.false_and]))
          go_quiet (fail)
          go_wp2
          go_ret
          exact ⟨ret_bool HF.out.symm, hxw.drewN _⟩
        have hz : ¬ (16 : Int) < (p.1.size : Int) := by omega
        by_cases h17 : 16 < p.2.size
        · have hz2 : (16 : Int) < (p.2.size : Int) := by omega
          have HF := Lib.hid (HNO.out (by rw [HOK.out, decide_eq_false (show ¬ p.2.size ≤ 16 by omega), Bool.false_and, Bool.and_false]))
          go_quiet (fail)
          go_wp2
          go_ret
          exact ⟨ret_bool HF.out.symm, hxw.drewN _⟩
        have hz2 : ¬ (16 : Int) < (p.2.size : Int) := by omega
        rcases Nat.eq_zero_or_pos k with rfl | hpos
        · have HT := Lib.hid (HOK.out.trans (by rw [decide_eq_true (by omega), decide_eq_true (by omega)]; try rfl))
          go_quiet (fail)
          go_wp2
          go_roundw
          case rel => exact ⟨1, by omega, by go_num, range_snoc hA.out HT.out, hxx.drewN _⟩
          case measure => simp [intOf]; omega
        · obtain ⟨j, rfl⟩ : ∃ j, k = j + 1 := ⟨k - 1, by omega⟩
          obtain ⟨y, hy, r0, _⟩ := pr_row ((Hh.out.cp.ext hx0).ext hxx) (i := j) (by rw [Hh.out.hp]; omega)
          cases hy
          have eq : prAt t.pairs (j + 1 - 1) = t.pairs[j]'(by rw [Hh.out.hp]; omega) := prAt_get _
          obtain ⟨q, hq⟩ : ∃ q, q = (t.pairs[j]'(by rw [Hh.out.hp]; omega)) := ⟨_, rfl⟩
          rw [← hq] at r0 eq
          rw [eq, decide_eq_true (by omega), decide_eq_true (by omega)] at HOK
          clear hq eq
          have e1 : ((j + 1 : Nat) : Int) - 1 = (j : Int) := by omega
          have hp1 : (0 : Int) < ((j + 1 : Nat) : Int) := by omega
          have hp2 : (0 : Int) ≤ (j : Int) := by omega
          have hp3 : (j : Int) < (P : Int) := by omega
          cases hb : Op.bytesLess q.1.toList p.1.toList with
          | true =>
            have HT := Lib.hid (HOK.out.trans (by unfold bslt; rw [hb]; try rfl))
            go_quiet (fail)
            go_wp2
            go_roundw
            case rel => exact ⟨j + 1 + 1, by omega, by go_num, range_snoc hA.out HT.out, hxx.drewN _⟩
            case measure => simp [intOf]; omega
          | false =>
            have HF := Lib.hid (HNO.out (HOK.out.trans (by unfold bslt; rw [hb]; try rfl)))
            go_quiet (fail)
            go_wp2
            go_ret
            exact ⟨ret_bool HF.out.symm, hxw.drewN _⟩
      · obtain rfl : k = P := by omega
        have hk0 : t.kids = [] := List.eq_nil_of_length_eq_zero Hh.out.hk
        have HT := Lib.hid (show ((List.range t.pairs.length).all (prOk t.pairs) && (List.range t.kids.length).all (kdOk t.kids)) = true from by rw [Hh.out.hp, hA.out, hk0]; rfl)
        clear hk0
        go_wp2
        go_loop [73] (fun i => i = .int .i64 0) (fun i => 0)
        case atStart => rfl
        case round =>
          subst hrel
          go_wp2
          go_ret
          exact ⟨ret_bool HT.out.symm, hx0.trans hx⟩
  · have hK1 : (((K : Int) == 1) : Bool) = false := by rw [beq_eq_false_iff_ne]; omega
    have hK3 : ¬ (3 : Int) < (K : Int) := by omega
    have hK0 : (0 : Int) < (K : Int) := by omega
    have Hh := Lib.hid h
    clear h
    go_enter Tryd.func83, Tryd.ntmps83
    have hbox : Blk (w.alloc (.cells #[.slice pa 0 pc, .slice ka K kc] 73)) w.heap.size 73 #[.slice pa 0 pc, .slice ka K kc] := Blk.new w _ _
    have hx0 : Ext w (w.alloc (.cells #[.slice pa 0 pc, .slice ka K kc] 73)) := (Ext.refl _).alloc _
    have Hbox := Lib.hid hbox
    obtain ⟨c0, c1⟩ := tree_cells hbox
    clear hbox
    go_wp2
    clear hK1 hK3 hK0
    go_loop [38] (fun i => i = .int .i64 0) (fun i => 0)
    case atStart => rfl
    case round =>
      subst hrel
      go_wp2
      go_loopw [73] (fun i wr => ∃ k : Nat, k ≤ K ∧ i = .int .i64 k ∧ Aside ((List.range k).all (kdOk t.kids) = true) ∧ Ext (w.alloc (.cells #[.slice pa 0 pc, .slice ka K kc] 73)) wr) (fun i _ => K - (intOf i).toNat)
      case atStart => exact ⟨0, Nat.zero_le _, rfl, rfl, Ext.refl _⟩
      case round =>
        obtain ⟨k, hk, rfl, hA, hx⟩ := hrel
        clear c0 c1
        by_cases hlt : k < K
        · have hkl : k < t.kids.length := by rw [Hh.out.hk]; exact hlt
          obtain ⟨x, rfl, _, _, r2⟩ := kd_row ((Hh.out.ck.ext hx0).ext hx) hkl
          have hql : (t.kids[k]).2.length = 33 := (Hh.out.sk _ (List.getElem_mem hkl)).2
          have hq0l : (t.kids[0]'(by omega)).2.length = 33 := (Hh.out.sk _ (List.getElem_mem _)).2
          obtain ⟨y, hy, _, rk0, _⟩ := kd_row (Hh.out.ck.ext (hx0.trans hx)) (i := 0) (by omega)
          cases hy
          obtain ⟨q, hq⟩ : ∃ q, q = t.kids[k] := ⟨_, rfl⟩
          obtain ⟨q0, hq0⟩ : ∃ q0, q0 = t.kids[0]'(by omega) := ⟨_, rfl⟩
          rw [← hq] at r2 hql
          rw [← hq0] at rk0 hq0l
          have HQ := Lib.hid hq
          have HQ0 := Lib.hid hq0
          have HQL := Lib.hid hql
          have HQ0L := Lib.hid hq0l
          clear hq hq0 hql hq0l
          have hlc := r2
          go_wp2_with (first
            | (refine wpList_load_row_ rfl 77 (.tmp 76) rfl (x.add (k * 34)) rfl (kdC q) _ hlc Tryd.underlying77 rfl (by rw [kd_info, kdC_len HQL.out]) ?_)
            | (refine wpList_store_blk rfl 77 (.tmp 6) (.tmp 77) rfl rfl wr.heap.size (kdC q).toArray rfl rfl _ _ (Blk.new wr _ _) (by rw [List.size_toArray, kdC_len HQL.out]; rfl) (by kernel_rfl) (kdC_one q) ?_; intro w3 hb6 hg3; have hx3 : Ext wr w3 := ((Ext.refl _).alloc _).grown_ hg3 (by simp)))
          clear hlc r2
          have hxx := hx.trans hx3
          have hxw := hx0.trans hxx
          have HB1 := Lib.hid (Hbox.out.ext hxx)
          have HR0 := Lib.hid (rk0.ext hx3)
          have hok : kdOk t.kids k = (decide (q.1.size ≤ 16) && (idGood q.2 && (idKind q.2 == idKind q0.2 && (k == 0 || bslt (kdAt t.kids (k - 1)).1 q.1)))) := by
            unfold kdOk
            rw [kdAt_get hkl, ← HQ.out, kdAt_get (show 0 < t.kids.length by omega), ← HQ0.out]
          have hp0 : t.pairs.length = 0 := Hh.out.hp
          have hno : kdOk t.kids k = false → ((List.range t.pairs.length).all (prOk t.pairs) && (List.range t.kids.length).all (kdOk t.kids)) = false := fun hf => by rw [range_bad hkl hf, Bool.and_false]
          have HOK := Lib.hid hok
          have HNO := Lib.hid hno
          have HGD := fun w' => idgood_calls q.2 w' HQL.out
          unfold idv at HGD
          obtain ⟨g6, hg6⟩ : ∃ g, g = wr.heap.size := ⟨_, rfl⟩
          rw [← hg6] at hb6 ⊢
          have HB6 := Lib.hid hb6
          clear hok hno hp0 hg3 hx3 rk0 hg6 hb6
          by_cases h16 : 16 < q.1.size
          · have hz : (16 : Int) < (q.1.size : Int) := by omega
            have HF := Lib.hid (HNO.out (by rw [HOK.out, decide_eq_false (by omega), Bool.false_and]))
            refine wp_region_ops (RInv [78, 79, 80, 81, 82, 83, 84, 85, 86, 87, 88, 89, 90, 91, 92, 93, 94, 95, 96, 97, 98, 99, 100, 101, 102, 103, 104, 105, 106, 107, 108, 109, 110, 111, 112, 113, 114, 115] _ w3.drew [(0, 78, .pointer (some ⟨g6, 0, none⟩)), (1, 79, .string q.1), (2, 80, .int .i64 (q.1.size : Int)), (3, 81, .bool true), (4, 82, .bool true), (5, 83, undef), (6, 84, undef), (7, 85, undef), (8, 86, undef), (9, 87, .bool true), (10, 88, .bool true), (11, 89, undef), (12, 90, undef), (13, 91, undef), (14, 92, undef), (15, 93, undef), (16, 94, undef), (17, 95, undef), (18, 96, undef), (19, 97, undef), (20, 98, undef), (21, 99, .bool true), (22, 100, .bool true), (23, 101, undef), (24, 102, undef), (25, 103, undef), (26, 104, undef), (27, 105, undef), (28, 106, undef), (29, 107, undef), (30, 108, undef), (31, 109, undef), (32, 110, undef), (33, 111, undef), (34, 112, undef), (35, 113, undef), (36, 114, undef), (37, 115, .bool true)] []) (by kernel_rfl) (by kernel_rfl) RInv.start ?_ ?_
            · refine ⟨?o0, ?o1, ?o2, ?o3, ?o4, ?o5, ?o6, ?o7, ?o8, ?o9, ?o10, ?o11, ?o12, ?o13, ?o14, ?o15, ?o16, ?o17, ?o18, ?o19, ?o20, ?o21, ?o22, ?o23, ?o24, ?o25, ?o26, ?o27, ?o28, ?o29, ?o30, ?o31, ?o32, ?o33, ?o34, ?o35, ?o36, ?o37, trivial⟩
              case o0 =>
                intro f a u h hfi hp hq
                exact h.yieldW rfl (wanted_none rfl) 78 rfl (by change 78 < 117; decide) rfl _ rfl (run_of_sem rfl (by rw [(show a.eval (.tmp 6) = .pointer (some ⟨g6, 0, none⟩) from h.agree.eval (by decide))]; exact f_kid0 _ _))
              case o1 =>
                intro f a u h hfi hp hq
                have hyu : Ext w3 u := ((Ext.refl w3).drew).trans h.ext
                exact h.yieldW rfl (wanted_none rfl) 79 rfl (by change 79 < 117; decide) rfl _ rfl (run_of_sem rfl (by rw [h.at_ 0 rfl (pre_of hp 0 rfl)]; exact ld_str (kid_cells (HB6.out.ext hyu)).1))
              case o2 =>
                intro f a u h hfi hp hq
                have q79 := h.att 1 rfl (pre_of hp 1 rfl)
                exact h.yieldW rfl (wanted_none rfl) 80 rfl (by change 80 < 117; decide) rfl _ rfl (by go_simp)
              case o3 =>
                intro f a u h hfi hp hq
                have q80 := h.att 2 rfl (pre_of hp 2 rfl)
                exact h.yieldW rfl (wanted_none rfl) 81 rfl (by change 81 < 117; decide) rfl _ rfl (by go_simp)
              case o4 =>
                intro f a u h hfi hp hq
                have q81 := h.att 3 rfl (pre_of hp 3 rfl)
                exact h.yieldW rfl (wanted_none rfl) 82 rfl (by change 82 < 117; decide) rfl _ rfl (by go_simp)
              case o5 =>
                intro f a u h hfi hp hq
                exact h.skip rfl (wanted_not (g := 4) (d' := 82) rfl rfl (h.at_ 4 rfl (pre_of hp 4 rfl)) rfl) 83 rfl (by change 83 < 117; decide) rfl rfl
              case o6 =>
                intro f a u h hfi hp hq
                exact h.skip rfl (wanted_not (g := 4) (d' := 82) rfl rfl (h.at_ 4 rfl (pre_of hp 4 rfl)) rfl) 84 rfl (by change 84 < 117; decide) rfl rfl
              case o7 =>
                intro f a u h hfi hp hq
                exact h.skip rfl (wanted_not (g := 4) (d' := 82) rfl rfl (h.at_ 4 rfl (pre_of hp 4 rfl)) rfl) 85 rfl (by change 85 < 117; decide) rfl rfl
              case o8 =>
                intro f a u h hfi hp hq
                exact h.skip rfl (wanted_not (g := 4) (d' := 82) rfl rfl (h.at_ 4 rfl (pre_of hp 4 rfl)) rfl) 86 rfl (by change 86 < 117; decide) rfl rfl
              case o9 =>
                intro f a u h hfi hp hq
                have q82 := h.att 4 rfl (pre_of hp 4 rfl)
                have q86 := h.att 8 rfl (pre_of hp 8 rfl)
                exact h.yieldW rfl (wanted_none rfl) 87 rfl (by change 87 < 117; decide) rfl _ rfl (by go_simp)
              case o10 =>
                intro f a u h hfi hp hq
                have q87 := h.att 9 rfl (pre_of hp 9 rfl)
                exact h.yieldW rfl (wanted_none rfl) 88 rfl (by change 88 < 117; decide) rfl _ rfl (by go_simp)
              case o11 =>
                intro f a u h hfi hp hq
                exact h.skip rfl (wanted_not (g := 10) (d' := 88) rfl rfl (h.at_ 10 rfl (pre_of hp 10 rfl)) rfl) 89 rfl (by change 89 < 117; decide) rfl rfl
              case o12 =>
                intro f a u h hfi hp hq
                exact h.skip rfl (wanted_not (g := 10) (d' := 88) rfl rfl (h.at_ 10 rfl (pre_of hp 10 rfl)) rfl) 90 rfl (by change 90 < 117; decide) rfl rfl
              case o13 =>
                intro f a u h hfi hp hq
                exact h.skip rfl (wanted_not (g := 10) (d' := 88) rfl rfl (h.at_ 10 rfl (pre_of hp 10 rfl)) rfl) 91 rfl (by change 91 < 117; decide) rfl rfl
              case o14 =>
                intro f a u h hfi hp hq
                exact h.skip rfl (wanted_not (g := 10) (d' := 88) rfl rfl (h.at_ 10 rfl (pre_of hp 10 rfl)) rfl) 92 rfl (by change 92 < 117; decide) rfl rfl
              case o15 =>
                intro f a u h hfi hp hq
                exact h.skip rfl (wanted_not (g := 10) (d' := 88) rfl rfl (h.at_ 10 rfl (pre_of hp 10 rfl)) rfl) 93 rfl (by change 93 < 117; decide) rfl rfl
              case o16 =>
                intro f a u h hfi hp hq
                exact h.skip rfl (wanted_not (g := 10) (d' := 88) rfl rfl (h.at_ 10 rfl (pre_of hp 10 rfl)) rfl) 94 rfl (by change 94 < 117; decide) rfl rfl
              case o17 =>
                intro f a u h hfi hp hq
                exact h.skip rfl (wanted_not (g := 10) (d' := 88) rfl rfl (h.at_ 10 rfl (pre_of hp 10 rfl)) rfl) 95 rfl (by change 95 < 117; decide) rfl rfl
              case o18 =>
                intro f a u h hfi hp hq
                exact h.skip rfl (wanted_not (g := 10) (d' := 88) rfl rfl (h.at_ 10 rfl (pre_of hp 10 rfl)) rfl) 96 rfl (by change 96 < 117; decide) rfl rfl
              case o19 =>
                intro f a u h hfi hp hq
                exact h.skip rfl (wanted_not (g := 10) (d' := 88) rfl rfl (h.at_ 10 rfl (pre_of hp 10 rfl)) rfl) 97 rfl (by change 97 < 117; decide) rfl rfl
              case o20 =>
                intro f a u h hfi hp hq
                exact h.skip rfl (wanted_not (g := 10) (d' := 88) rfl rfl (h.at_ 10 rfl (pre_of hp 10 rfl)) rfl) 98 rfl (by change 98 < 117; decide) rfl rfl
              case o21 =>
                intro f a u h hfi hp hq
                have q88 := h.att 10 rfl (pre_of hp 10 rfl)
                have q98 := h.att 20 rfl (pre_of hp 20 rfl)
                exact h.yieldW rfl (wanted_none rfl) 99 rfl (by change 99 < 117; decide) rfl _ rfl (by go_simp)
              case o22 =>
                intro f a u h hfi hp hq
                have q99 := h.att 21 rfl (pre_of hp 21 rfl)
                exact h.yieldW rfl (wanted_none rfl) 100 rfl (by change 100 < 117; decide) rfl _ rfl (by go_simp)
              case o23 =>
                intro f a u h hfi hp hq
                exact h.skip rfl (wanted_not (g := 22) (d' := 100) rfl rfl (h.at_ 22 rfl (pre_of hp 22 rfl)) rfl) 101 rfl (by change 101 < 117; decide) rfl rfl
              case o24 =>
                intro f a u h hfi hp hq
                exact h.skip rfl (wanted_not (g := 22) (d' := 100) rfl rfl (h.at_ 22 rfl (pre_of hp 22 rfl)) rfl) 102 rfl (by change 102 < 117; decide) rfl rfl
              case o25 =>
                intro f a u h hfi hp hq
                exact h.skip rfl (wanted_not (g := 22) (d' := 100) rfl rfl (h.at_ 22 rfl (pre_of hp 22 rfl)) rfl) 103 rfl (by change 103 < 117; decide) rfl rfl
              case o26 =>
                intro f a u h hfi hp hq
                exact h.skip rfl (wanted_undef (g := 25) (d' := 103) rfl rfl (h.at_ 25 rfl (pre_of hp 25 rfl))) 104 rfl (by change 104 < 117; decide) rfl rfl
              case o27 =>
                intro f a u h hfi hp hq
                exact h.skip rfl (wanted_undef (g := 25) (d' := 103) rfl rfl (h.at_ 25 rfl (pre_of hp 25 rfl))) 105 rfl (by change 105 < 117; decide) rfl rfl
              case o28 =>
                intro f a u h hfi hp hq
                exact h.skip rfl (wanted_undef (g := 25) (d' := 103) rfl rfl (h.at_ 25 rfl (pre_of hp 25 rfl))) 106 rfl (by change 106 < 117; decide) rfl rfl
              case o29 =>
                intro f a u h hfi hp hq
                exact h.skip rfl (wanted_undef (g := 25) (d' := 103) rfl rfl (h.at_ 25 rfl (pre_of hp 25 rfl))) 107 rfl (by change 107 < 117; decide) rfl rfl
              case o30 =>
                intro f a u h hfi hp hq
                exact h.skip rfl (wanted_undef (g := 25) (d' := 103) rfl rfl (h.at_ 25 rfl (pre_of hp 25 rfl))) 108 rfl (by change 108 < 117; decide) rfl rfl
              case o31 =>
                intro f a u h hfi hp hq
                exact h.skip rfl (wanted_undef (g := 25) (d' := 103) rfl rfl (h.at_ 25 rfl (pre_of hp 25 rfl))) 109 rfl (by change 109 < 117; decide) rfl rfl
              case o32 =>
                intro f a u h hfi hp hq
                exact h.skip rfl (wanted_undef (g := 25) (d' := 103) rfl rfl (h.at_ 25 rfl (pre_of hp 25 rfl))) 110 rfl (by change 110 < 117; decide) rfl rfl
              case o33 =>
                intro f a u h hfi hp hq
                exact h.skip rfl (wanted_undef (g := 25) (d' := 103) rfl rfl (h.at_ 25 rfl (pre_of hp 25 rfl))) 111 rfl (by change 111 < 117; decide) rfl rfl
              case o34 =>
                intro f a u h hfi hp hq
                exact h.skip rfl (wanted_undef (g := 25) (d' := 103) rfl rfl (h.at_ 25 rfl (pre_of hp 25 rfl))) 112 rfl (by change 112 < 117; decide) rfl rfl
              case o35 =>
                intro f a u h hfi hp hq
                exact h.skip rfl (wanted_undef (g := 25) (d' := 103) rfl rfl (h.at_ 25 rfl (pre_of hp 25 rfl))) 113 rfl (by change 113 < 117; decide) rfl rfl
              case o36 =>
                intro f a u h hfi hp hq
                exact h.skip rfl (wanted_not (g := 22) (d' := 100) rfl rfl (h.at_ 22 rfl (pre_of hp 22 rfl)) rfl) 114 rfl (by change 114 < 117; decide) rfl rfl
              case o37 =>
                intro f a u h hfi hp hq
                have q100 := h.att 22 rfl (pre_of hp 22 rfl)
                have q114 := h.att 36 rfl (pre_of hp 36 rfl)
                exact h.yieldW rfl (wanted_none rfl) 115 rfl (by change 115 < 117; decide) rfl _ rfl (by go_simp)
            · intro f a u h hall hfar
              have hag := h.agree.out
              have e115 := h.at_ 37 rfl (hall 37 (by decide))
              have hye := ((Ext.refl w3).drew).trans h.ext
              simp only [List.foldl_cons, List.foldl_nil, Act.put, List.setIfInBounds_toArray, List.set_cons_zero, List.set_cons_succ, e115] at hag
              generalize a.eval (.tmp 78) = y78 at hag
              generalize a.eval (.tmp 79) = y79 at hag
              generalize a.eval (.tmp 80) = y80 at hag
              generalize a.eval (.tmp 81) = y81 at hag
              generalize a.eval (.tmp 82) = y82 at hag
              generalize a.eval (.tmp 83) = y83 at hag
              generalize a.eval (.tmp 84) = y84 at hag
              generalize a.eval (.tmp 85) = y85 at hag
              generalize a.eval (.tmp 86) = y86 at hag
              generalize a.eval (.tmp 87) = y87 at hag
              generalize a.eval (.tmp 88) = y88 at hag
              generalize a.eval (.tmp 89) = y89 at hag
              generalize a.eval (.tmp 90) = y90 at hag
              generalize a.eval (.tmp 91) = y91 at hag
              generalize a.eval (.tmp 92) = y92 at hag
              generalize a.eval (.tmp 93) = y93 at hag
              generalize a.eval (.tmp 94) = y94 at hag
              generalize a.eval (.tmp 95) = y95 at hag
              generalize a.eval (.tmp 96) = y96 at hag
              generalize a.eval (.tmp 97) = y97 at hag
              generalize a.eval (.tmp 98) = y98 at hag
              generalize a.eval (.tmp 99) = y99 at hag
              generalize a.eval (.tmp 100) = y100 at hag
              generalize a.eval (.tmp 101) = y101 at hag
              generalize a.eval (.tmp 102) = y102 at hag
              generalize a.eval (.tmp 103) = y103 at hag
              generalize a.eval (.tmp 104) = y104 at hag
              generalize a.eval (.tmp 105) = y105 at hag
              generalize a.eval (.tmp 106) = y106 at hag
              generalize a.eval (.tmp 107) = y107 at hag
              generalize a.eval (.tmp 108) = y108 at hag
              generalize a.eval (.tmp 109) = y109 at hag
              generalize a.eval (.tmp 110) = y110 at hag
              generalize a.eval (.tmp 111) = y111 at hag
              generalize a.eval (.tmp 112) = y112 at hag
              generalize a.eval (.tmp 113) = y113 at hag
              generalize a.eval (.tmp 114) = y114 at hag
              clear h hall hfar e115
              subst hag
              go_wp2
              go_ret
              exact ⟨ret_bool HF.out.symm, hxw.trans hye⟩
          have hz : ¬ (16 : Int) < (q.1.size : Int) := by omega
          cases hgood : idGood q.2 with
          | false =>
            have HF := Lib.hid (HNO.out (by rw [HOK.out, hgood, Bool.false_and, Bool.and_false]))
            rw [hgood] at HGD
            refine wp_region_ops (RInv [78, 79, 80, 81, 82, 83, 84, 85, 86, 87, 88, 89, 90, 91, 92, 93, 94, 95, 96, 97, 98, 99, 100, 101, 102, 103, 104, 105, 106, 107, 108, 109, 110, 111, 112, 113, 114, 115] _ w3.drew [(0, 78, .pointer (some ⟨g6, 0, none⟩)), (1, 79, .string q.1), (2, 80, .int .i64 (q.1.size : Int)), (3, 81, .bool false), (4, 82, .bool false), (5, 83, .pointer (some ⟨g6, 1, none⟩)), (6, 84, .agg (bv q.2).toArray), (7, 85, .bool false), (8, 86, .bool true), (9, 87, .bool true), (10, 88, .bool true), (11, 89, undef), (12, 90, undef), (13, 91, undef), (14, 92, undef), (15, 93, undef), (16, 94, undef), (17, 95, undef), (18, 96, undef), (19, 97, undef), (20, 98, undef), (21, 99, .bool true), (22, 100, .bool true), (23, 101, undef), (24, 102, undef), (25, 103, undef), (26, 104, undef), (27, 105, undef), (28, 106, undef), (29, 107, undef), (30, 108, undef), (31, 109, undef), (32, 110, undef), (33, 111, undef), (34, 112, undef), (35, 113, undef), (36, 114, undef), (37, 115, .bool true)] []) (by kernel_rfl) (by kernel_rfl) RInv.start ?_ ?_
            · refine ⟨?o0, ?o1, ?o2, ?o3, ?o4, ?o5, ?o6, ?o7, ?o8, ?o9, ?o10, ?o11, ?o12, ?o13, ?o14, ?o15, ?o16, ?o17, ?o18, ?o19, ?o20, ?o21, ?o22, ?o23, ?o24, ?o25, ?o26, ?o27, ?o28, ?o29, ?o30, ?o31, ?o32, ?o33, ?o34, ?o35, ?o36, ?o37, trivial⟩
              case o0 =>
                intro f a u h hfi hp hq
                exact h.yieldW rfl (wanted_none rfl) 78 rfl (by change 78 < 117; decide) rfl _ rfl (run_of_sem rfl (by rw [(show a.eval (.tmp 6) = .pointer (some ⟨g6, 0, none⟩) from h.agree.eval (by decide))]; exact f_kid0 _ _))
              case o1 =>
                intro f a u h hfi hp hq
                have hyu : Ext w3 u := ((Ext.refl w3).drew).trans h.ext
                exact h.yieldW rfl (wanted_none rfl) 79 rfl (by change 79 < 117; decide) rfl _ rfl (run_of_sem rfl (by rw [h.at_ 0 rfl (pre_of hp 0 rfl)]; exact ld_str (kid_cells (HB6.out.ext hyu)).1))
              case o2 =>
                intro f a u h hfi hp hq
                have q79 := h.att 1 rfl (pre_of hp 1 rfl)
                exact h.yieldW rfl (wanted_none rfl) 80 rfl (by change 80 < 117; decide) rfl _ rfl (by go_simp)
              case o3 =>
                intro f a u h hfi hp hq
                have q80 := h.att 2 rfl (pre_of hp 2 rfl)
                exact h.yieldW rfl (wanted_none rfl) 81 rfl (by change 81 < 117; decide) rfl _ rfl (by go_simp)
              case o4 =>
                intro f a u h hfi hp hq
                have q81 := h.att 3 rfl (pre_of hp 3 rfl)
                exact h.yieldW rfl (wanted_none rfl) 82 rfl (by change 82 < 117; decide) rfl _ rfl (by go_simp)
              case o5 =>
                intro f a u h hfi hp hq
                exact h.yieldW rfl (wanted_yes (g := 4) (d' := 82) rfl rfl (h.at_ 4 rfl (pre_of hp 4 rfl))) 83 rfl (by change 83 < 117; decide) rfl _ rfl (run_of_sem rfl (by rw [(show a.eval (.tmp 6) = .pointer (some ⟨g6, 0, none⟩) from h.agree.eval (by decide))]; exact f_kid1 _ _))
              case o6 =>
                intro f a u h hfi hp hq
                have hyu : Ext w3 u := ((Ext.refl w3).drew).trans h.ext
                exact h.yieldW rfl (wanted_yes (g := 4) (d' := 82) rfl rfl (h.at_ 4 rfl (pre_of hp 4 rfl))) 84 rfl (by change 84 < 117; decide) rfl _ rfl (run_of_sem rfl (by rw [h.at_ 5 rfl (pre_of hp 5 rfl)]; exact ld_id HQL.out (kid_cells (HB6.out.ext hyu)).2))
              case o7 =>
                intro f a u h hfi hp hq
                exact h.callW rfl (wanted_yes (g := 4) (d' := 82) rfl rfl (h.at_ 4 rfl (pre_of hp 4 rfl))) 85 rfl (by change 85 < 117; decide) rfl _ rfl 93 #[.tmp 84] #[27] _ rfl (by kernel_rfl) (by rw [arr1, h.at_ 6 rfl (pre_of hp 6 rfl)]) (HGD u)
              case o8 =>
                intro f a u h hfi hp hq
                have q85 := h.att 7 rfl (pre_of hp 7 rfl)
                exact h.yieldW rfl (wanted_yes (g := 4) (d' := 82) rfl rfl (h.at_ 4 rfl (pre_of hp 4 rfl))) 86 rfl (by change 86 < 117; decide) rfl _ rfl (by go_simp)
              case o9 =>
                intro f a u h hfi hp hq
                have q82 := h.att 4 rfl (pre_of hp 4 rfl)
                have q86 := h.att 8 rfl (pre_of hp 8 rfl)
                exact h.yieldW rfl (wanted_none rfl) 87 rfl (by change 87 < 117; decide) rfl _ rfl (by go_simp)
              case o10 =>
                intro f a u h hfi hp hq
                have q87 := h.att 9 rfl (pre_of hp 9 rfl)
                exact h.yieldW rfl (wanted_none rfl) 88 rfl (by change 88 < 117; decide) rfl _ rfl (by go_simp)
              case o11 =>
                intro f a u h hfi hp hq
                exact h.skip rfl (wanted_not (g := 10) (d' := 88) rfl rfl (h.at_ 10 rfl (pre_of hp 10 rfl)) rfl) 89 rfl (by change 89 < 117; decide) rfl rfl
              case o12 =>
                intro f a u h hfi hp hq
                exact h.skip rfl (wanted_not (g := 10) (d' := 88) rfl rfl (h.at_ 10 rfl (pre_of hp 10 rfl)) rfl) 90 rfl (by change 90 < 117; decide) rfl rfl
              case o13 =>
                intro f a u h hfi hp hq
                exact h.skip rfl (wanted_not (g := 10) (d' := 88) rfl rfl (h.at_ 10 rfl (pre_of hp 10 rfl)) rfl) 91 rfl (by change 91 < 117; decide) rfl rfl
              case o14 =>
                intro f a u h hfi hp hq
                exact h.skip rfl (wanted_not (g := 10) (d' := 88) rfl rfl (h.at_ 10 rfl (pre_of hp 10 rfl)) rfl) 92 rfl (by change 92 < 117; decide) rfl rfl
              case o15 =>
                intro f a u h hfi hp hq
                exact h.skip rfl (wanted_not (g := 10) (d' := 88) rfl rfl (h.at_ 10 rfl (pre_of hp 10 rfl)) rfl) 93 rfl (by change 93 < 117; decide) rfl rfl
              case o16 =>
                intro f a u h hfi hp hq
                exact h.skip rfl (wanted_not (g := 10) (d' := 88) rfl rfl (h.at_ 10 rfl (pre_of hp 10 rfl)) rfl) 94 rfl (by change 94 < 117; decide) rfl rfl
              case o17 =>
                intro f a u h hfi hp hq
                exact h.skip rfl (wanted_not (g := 10) (d' := 88) rfl rfl (h.at_ 10 rfl (pre_of hp 10 rfl)) rfl) 95 rfl (by change 95 < 117; decide) rfl rfl
              case o18 =>
                intro f a u h hfi hp hq
                exact h.skip rfl (wanted_not (g := 10) (d' := 88) rfl rfl (h.at_ 10 rfl (pre_of hp 10 rfl)) rfl) 96 rfl (by change 96 < 117; decide) rfl rfl
              case o19 =>
                intro f a u h hfi hp hq
                exact h.skip rfl (wanted_not (g := 10) (d' := 88) rfl rfl (h.at_ 10 rfl (pre_of hp 10 rfl)) rfl) 97 rfl (by change 97 < 117; decide) rfl rfl
              case o20 =>
                intro f a u h hfi hp hq
                exact h.skip rfl (wanted_not (g := 10) (d' := 88) rfl rfl (h.at_ 10 rfl (pre_of hp 10 rfl)) rfl) 98 rfl (by change 98 < 117; decide) rfl rfl
              case o21 =>
                intro f a u h hfi hp hq
                have q88 := h.att 10 rfl (pre_of hp 10 rfl)
                have q98 := h.att 20 rfl (pre_of hp 20 rfl)
                exact h.yieldW rfl (wanted_none rfl) 99 rfl (by change 99 < 117; decide) rfl _ rfl (by go_simp)
              case o22 =>
                intro f a u h hfi hp hq
                have q99 := h.att 21 rfl (pre_of hp 21 rfl)
                exact h.yieldW rfl (wanted_none rfl) 100 rfl (by change 100 < 117; decide) rfl _ rfl (by go_simp)
              case o23 =>
                intro f a u h hfi hp hq
                exact h.skip rfl (wanted_not (g := 22) (d' := 100) rfl rfl (h.at_ 22 rfl (pre_of hp 22 rfl)) rfl) 101 rfl (by change 101 < 117; decide) rfl rfl
              case o24 =>
                intro f a u h hfi hp hq
                exact h.skip rfl (wanted_not (g := 22) (d' := 100) rfl rfl (h.at_ 22 rfl (pre_of hp 22 rfl)) rfl) 102 rfl (by change 102 < 117; decide) rfl rfl
              case o25 =>
                intro f a u h hfi hp hq
                exact h.skip rfl (wanted_not (g := 22) (d' := 100) rfl rfl (h.at_ 22 rfl (pre_of hp 22 rfl)) rfl) 103 rfl (by change 103 < 117; decide) rfl rfl
              case o26 =>
                intro f a u h hfi hp hq
                exact h.skip rfl (wanted_undef (g := 25) (d' := 103) rfl rfl (h.at_ 25 rfl (pre_of hp 25 rfl))) 104 rfl (by change 104 < 117; decide) rfl rfl
              case o27 =>
                intro f a u h hfi hp hq
                exact h.skip rfl (wanted_undef (g := 25) (d' := 103) rfl rfl (h.at_ 25 rfl (pre_of hp 25 rfl))) 105 rfl (by change 105 < 117; decide) rfl rfl
              case o28 =>
                intro f a u h hfi hp hq
                exact h.skip rfl (wanted_undef (g := 25) (d' := 103) rfl rfl (h.at_ 25 rfl (pre_of hp 25 rfl))) 106 rfl (by change 106 < 117; decide) rfl rfl
              case o29 =>
                intro f a u h hfi hp hq
                exact h.skip rfl (wanted_undef (g := 25) (d' := 103) rfl rfl (h.at_ 25 rfl (pre_of hp 25 rfl))) 107 rfl (by change 107 < 117; decide) rfl rfl
              case o30 =>
                intro f a u h hfi hp hq
                exact h.skip rfl (wanted_undef (g := 25) (d' := 103) rfl rfl (h.at_ 25 rfl (pre_of hp 25 rfl))) 108 rfl (by change 108 < 117; decide) rfl rfl
              case o31 =>
                intro f a u h hfi hp hq
                exact h.skip rfl (wanted_undef (g := 25) (d' := 103) rfl rfl (h.at_ 25 rfl (pre_of hp 25 rfl))) 109 rfl (by change 109 < 117; decide) rfl rfl
              case o32 =>
                intro f a u h hfi hp hq
                exact h.skip rfl (wanted_undef (g := 25) (d' := 103) rfl rfl (h.at_ 25 rfl (pre_of hp 25 rfl))) 110 rfl (by change 110 < 117; decide) rfl rfl
              case o33 =>
                intro f a u h hfi hp hq
                exact h.skip rfl (wanted_undef (g := 25) (d' := 103) rfl rfl (h.at_ 25 rfl (pre_of hp 25 rfl))) 111 rfl (by change 111 < 117; decide) rfl rfl
              case o34 =>
                intro f a u h hfi hp hq
                exact h.skip rfl (wanted_undef (g := 25) (d' := 103) rfl rfl (h.at_ 25 rfl (pre_of hp 25 rfl))) 112 rfl (by change 112 < 117; decide) rfl rfl
              case o35 =>
                intro f a u h hfi hp hq
                exact h.skip rfl (wanted_undef (g := 25) (d' := 103) rfl rfl (h.at_ 25 rfl (pre_of hp 25 rfl))) 113 rfl (by change 113 < 117; decide) rfl rfl
              case o36 =>
                intro f a u h hfi hp hq
                exact h.skip rfl (wanted_not (g := 22) (d' := 100) rfl rfl (h.at_ 22 rfl (pre_of hp 22 rfl)) rfl) 114 rfl (by change 114 < 117; decide) rfl rfl
              case o37 =>
                intro f a u h hfi hp hq
                have q100 := h.att 22 rfl (pre_of hp 22 rfl)
                have q114 := h.att 36 rfl (pre_of hp 36 rfl)
                exact h.yieldW rfl (wanted_none rfl) 115 rfl (by change 115 < 117; decide) rfl _ rfl (by go_simp)
            · intro f a u h hall hfar
              have hag := h.agree.out
              have e115 := h.at_ 37 rfl (hall 37 (by decide))
              have hye := ((Ext.refl w3).drew).trans h.ext
              simp only [List.foldl_cons, List.foldl_nil, Act.put, List.setIfInBounds_toArray, List.set_cons_zero, List.set_cons_succ, e115] at hag
              generalize a.eval (.tmp 78) = y78 at hag
              generalize a.eval (.tmp 79) = y79 at hag
              generalize a.eval (.tmp 80) = y80 at hag
              generalize a.eval (.tmp 81) = y81 at hag
              generalize a.eval (.tmp 82) = y82 at hag
              generalize a.eval (.tmp 83) = y83 at hag
              generalize a.eval (.tmp 84) = y84 at hag
              generalize a.eval (.tmp 85) = y85 at hag
              generalize a.eval (.tmp 86) = y86 at hag
              generalize a.eval (.tmp 87) = y87 at hag
              generalize a.eval (.tmp 88) = y88 at hag
              generalize a.eval (.tmp 89) = y89 at hag
              generalize a.eval (.tmp 90) = y90 at hag
              generalize a.eval (.tmp 91) = y91 at hag
              generalize a.eval (.tmp 92) = y92 at hag
              generalize a.eval (.tmp 93) = y93 at hag
              generalize a.eval (.tmp 94) = y94 at hag
              generalize a.eval (.tmp 95) = y95 at hag
              generalize a.eval (.tmp 96) = y96 at hag
              generalize a.eval (.tmp 97) = y97 at hag
              generalize a.eval (.tmp 98) = y98 at hag
              generalize a.eval (.tmp 99) = y99 at hag
              generalize a.eval (.tmp 100) = y100 at hag
              generalize a.eval (.tmp 101) = y101 at hag
              generalize a.eval (.tmp 102) = y102 at hag
              generalize a.eval (.tmp 103) = y103 at hag
              generalize a.eval (.tmp 104) = y104 at hag
              generalize a.eval (.tmp 105) = y105 at hag
              generalize a.eval (.tmp 106) = y106 at hag
              generalize a.eval (.tmp 107) = y107 at hag
              generalize a.eval (.tmp 108) = y108 at hag
              generalize a.eval (.tmp 109) = y109 at hag
              generalize a.eval (.tmp 110) = y110 at hag
              generalize a.eval (.tmp 111) = y111 at hag
              generalize a.eval (.tmp 112) = y112 at hag
              generalize a.eval (.tmp 113) = y113 at hag
              generalize a.eval (.tmp 114) = y114 at hag
              clear h hall hfar e115
              subst hag
              go_wp2
              go_ret
              exact ⟨ret_bool HF.out.symm, hxw.trans hye⟩
          | true =>
            rw [hgood] at HGD HOK
            have hkb : (((idKind q.2).toNat : Int) == ((idKind q0.2).toNat : Int)) = (idKind q.2 == idKind q0.2) := by
              rw [Bool.eq_iff_iff]
              simp only [beq_iff_eq]
              exact ⟨fun e => UInt8.toNat_inj.1 (by omega), fun e => by rw [e]⟩
            cases hkk : idKind q.2 == idKind q0.2 with
            | false =>
              rw [hkk] at hkb
              have hkn : (((idKind q.2).toNat : Int) != ((idKind q0.2).toNat : Int)) = true := by unfold bne; rw [hkb]; rfl
              have HF := Lib.hid (HNO.out (by rw [HOK.out, hkk, Bool.false_and, Bool.and_false, Bool.and_false]))
              refine wp_region_ops (RInv [78, 79, 80, 81, 82, 83, 84, 85, 86, 87, 88, 89, 90, 91, 92, 93, 94, 95, 96, 97, 98, 99, 100, 101, 102, 103, 104, 105, 106, 107, 108, 109, 110, 111, 112, 113, 114, 115] _ w3.drew [(0, 78, .pointer (some ⟨g6, 0, none⟩)), (1, 79, .string q.1), (2, 80, .int .i64 (q.1.size : Int)), (3, 81, .bool false), (4, 82, .bool false), (5, 83, .pointer (some ⟨g6, 1, none⟩)), (6, 84, .agg (bv q.2).toArray), (7, 85, .bool true), (8, 86, .bool false), (9, 87, .bool false), (10, 88, .bool false), (11, 89, .pointer (some ⟨g6, 1, none⟩)), (12, 90, .pointer (some ⟨g6, 1, none⟩)), (13, 91, .int .u8 ((idKind q.2).toNat : Int)), (14, 92, .pointer (some ⟨w.heap.size, 1, none⟩)), (15, 93, .slice (some x) K kc), (16, 94, .pointer (some (x.add (0 * 34)))), (17, 95, .pointer (some ((x.add (0 * 34)).add 1))), (18, 96, .pointer (some ((x.add (0 * 34)).add 1))), (19, 97, .int .u8 ((idKind q0.2).toNat : Int)), (20, 98, .bool true), (21, 99, .bool true), (22, 100, .bool true), (23, 101, undef), (24, 102, undef), (25, 103, undef), (26, 104, undef), (27, 105, undef), (28, 106, undef), (29, 107, undef), (30, 108, undef), (31, 109, undef), (32, 110, undef), (33, 111, undef), (34, 112, undef), (35, 113, undef), (36, 114, undef), (37, 115, .bool true)] []) (by kernel_rfl) (by kernel_rfl) RInv.start ?_ ?_
              · refine ⟨?o0, ?o1, ?o2, ?o3, ?o4, ?o5, ?o6, ?o7, ?o8, ?o9, ?o10, ?o11, ?o12, ?o13, ?o14, ?o15, ?o16, ?o17, ?o18, ?o19, ?o20, ?o21, ?o22, ?o23, ?o24, ?o25, ?o26, ?o27, ?o28, ?o29, ?o30, ?o31, ?o32, ?o33, ?o34, ?o35, ?o36, ?o37, trivial⟩
                case o0 =>
                  intro f a u h hfi hp hq
                  exact h.yieldW rfl (wanted_none rfl) 78 rfl (by change 78 < 117; decide) rfl _ rfl (run_of_sem rfl (by rw [(show a.eval (.tmp 6) = .pointer (some ⟨g6, 0, none⟩) from h.agree.eval (by decide))]; exact f_kid0 _ _))
                case o1 =>
                  intro f a u h hfi hp hq
                  have hyu : Ext w3 u := ((Ext.refl w3).drew).trans h.ext
                  exact h.yieldW rfl (wanted_none rfl) 79 rfl (by change 79 < 117; decide) rfl _ rfl (run_of_sem rfl (by rw [h.at_ 0 rfl (pre_of hp 0 rfl)]; exact ld_str (kid_cells (HB6.out.ext hyu)).1))
                case o2 =>
                  intro f a u h hfi hp hq
                  have q79 := h.att 1 rfl (pre_of hp 1 rfl)
                  exact h.yieldW rfl (wanted_none rfl) 80 rfl (by change 80 < 117; decide) rfl _ rfl (by go_simp)
                case o3 =>
                  intro f a u h hfi hp hq
                  have q80 := h.att 2 rfl (pre_of hp 2 rfl)
                  exact h.yieldW rfl (wanted_none rfl) 81 rfl (by change 81 < 117; decide) rfl _ rfl (by go_simp)
                case o4 =>
                  intro f a u h hfi hp hq
                  have q81 := h.att 3 rfl (pre_of hp 3 rfl)
                  exact h.yieldW rfl (wanted_none rfl) 82 rfl (by change 82 < 117; decide) rfl _ rfl (by go_simp)
                case o5 =>
                  intro f a u h hfi hp hq
                  exact h.yieldW rfl (wanted_yes (g := 4) (d' := 82) rfl rfl (h.at_ 4 rfl (pre_of hp 4 rfl))) 83 rfl (by change 83 < 117; decide) rfl _ rfl (run_of_sem rfl (by rw [(show a.eval (.tmp 6) = .pointer (some ⟨g6, 0, none⟩) from h.agree.eval (by decide))]; exact f_kid1 _ _))
                case o6 =>
                  intro f a u h hfi hp hq
                  have hyu : Ext w3 u := ((Ext.refl w3).drew).trans h.ext
                  exact h.yieldW rfl (wanted_yes (g := 4) (d' := 82) rfl rfl (h.at_ 4 rfl (pre_of hp 4 rfl))) 84 rfl (by change 84 < 117; decide) rfl _ rfl (run_of_sem rfl (by rw [h.at_ 5 rfl (pre_of hp 5 rfl)]; exact ld_id HQL.out (kid_cells (HB6.out.ext hyu)).2))
                case o7 =>
                  intro f a u h hfi hp hq
                  exact h.callW rfl (wanted_yes (g := 4) (d' := 82) rfl rfl (h.at_ 4 rfl (pre_of hp 4 rfl))) 85 rfl (by change 85 < 117; decide) rfl _ rfl 93 #[.tmp 84] #[27] _ rfl (by kernel_rfl) (by rw [arr1, h.at_ 6 rfl (pre_of hp 6 rfl)]) (HGD u)
                case o8 =>
                  intro f a u h hfi hp hq
                  have q85 := h.att 7 rfl (pre_of hp 7 rfl)
                  exact h.yieldW rfl (wanted_yes (g := 4) (d' := 82) rfl rfl (h.at_ 4 rfl (pre_of hp 4 rfl))) 86 rfl (by change 86 < 117; decide) rfl _ rfl (by go_simp)
                case o9 =>
                  intro f a u h hfi hp hq
                  have q82 := h.att 4 rfl (pre_of hp 4 rfl)
                  have q86 := h.att 8 rfl (pre_of hp 8 rfl)
                  exact h.yieldW rfl (wanted_none rfl) 87 rfl (by change 87 < 117; decide) rfl _ rfl (by go_simp)
                case o10 =>
                  intro f a u h hfi hp hq
                  have q87 := h.att 9 rfl (pre_of hp 9 rfl)
                  exact h.yieldW rfl (wanted_none rfl) 88 rfl (by change 88 < 117; decide) rfl _ rfl (by go_simp)
                case o11 =>
                  intro f a u h hfi hp hq
                  exact h.yieldW rfl (wanted_yes (g := 10) (d' := 88) rfl rfl (h.at_ 10 rfl (pre_of hp 10 rfl))) 89 rfl (by change 89 < 117; decide) rfl _ rfl (run_of_sem rfl (by rw [(show a.eval (.tmp 6) = .pointer (some ⟨g6, 0, none⟩) from h.agree.eval (by decide))]; exact f_kid1 _ _))
                case o12 =>
                  intro f a u h hfi hp hq
                  exact h.yieldW rfl (wanted_yes (g := 10) (d' := 88) rfl rfl (h.at_ 10 rfl (pre_of hp 10 rfl))) 90 rfl (by change 90 < 117; decide) rfl _ rfl (run_of_sem rfl (by rw [h.at_ 11 rfl (pre_of hp 11 rfl)]; exact f_id0 _ _))
                case o13 =>
                  intro f a u h hfi hp hq
                  have hyu : Ext w3 u := ((Ext.refl w3).drew).trans h.ext
                  exact h.yieldW rfl (wanted_yes (g := 10) (d' := 88) rfl rfl (h.at_ 10 rfl (pre_of hp 10 rfl))) 91 rfl (by change 91 < 117; decide) rfl _ rfl (run_of_sem rfl (by rw [h.at_ 12 rfl (pre_of hp 12 rfl)]; exact ld_u8 ((kid_cells (HB6.out.ext hyu)).2.head (by rw [HQL.out]; decide))))
                case o14 =>
                  intro f a u h hfi hp hq
                  exact h.yieldW rfl (wanted_yes (g := 10) (d' := 88) rfl rfl (h.at_ 10 rfl (pre_of hp 10 rfl))) 92 rfl (by change 92 < 117; decide) rfl _ rfl (run_of_sem rfl (by rw [(show a.eval (.tmp 1) = .pointer (some ⟨w.heap.size, 0, none⟩) from h.agree.eval (by decide))]; exact f_tree1 _ _))
                case o15 =>
                  intro f a u h hfi hp hq
                  have hyu : Ext w3 u := ((Ext.refl w3).drew).trans h.ext
                  exact h.yieldW rfl (wanted_yes (g := 10) (d' := 88) rfl rfl (h.at_ 10 rfl (pre_of hp 10 rfl))) 93 rfl (by change 93 < 117; decide) rfl _ rfl (run_of_sem rfl (by rw [h.at_ 14 rfl (pre_of hp 14 rfl)]; exact ld_kids (tree_cells (HB1.out.ext hyu)).2))
                case o16 =>
                  intro f a u h hfi hp hq
                  exact h.yieldW rfl (wanted_yes (g := 10) (d' := 88) rfl rfl (h.at_ 10 rfl (pre_of hp 10 rfl))) 94 rfl (by change 94 < 117; decide) rfl _ rfl (run_of_sem rfl (by rw [h.at_ 15 rfl (pre_of hp 15 rfl)]; exact ix_kid (i := 0) rfl (by omega)))
                case o17 =>
                  intro f a u h hfi hp hq
                  exact h.yieldW rfl (wanted_yes (g := 10) (d' := 88) rfl rfl (h.at_ 10 rfl (pre_of hp 10 rfl))) 95 rfl (by change 95 < 117; decide) rfl _ rfl (run_of_sem rfl (by rw [h.at_ 16 rfl (pre_of hp 16 rfl)]; exact f_kid1 _ _))
                case o18 =>
                  intro f a u h hfi hp hq
                  exact h.yieldW rfl (wanted_yes (g := 10) (d' := 88) rfl rfl (h.at_ 10 rfl (pre_of hp 10 rfl))) 96 rfl (by change 96 < 117; decide) rfl _ rfl (run_of_sem rfl (by rw [h.at_ 17 rfl (pre_of hp 17 rfl)]; exact f_id0 _ _))
                case o19 =>
                  intro f a u h hfi hp hq
                  have hyu : Ext w3 u := ((Ext.refl w3).drew).trans h.ext
                  exact h.yieldW rfl (wanted_yes (g := 10) (d' := 88) rfl rfl (h.at_ 10 rfl (pre_of hp 10 rfl))) 97 rfl (by change 97 < 117; decide) rfl _ rfl (run_of_sem rfl (by rw [h.at_ 18 rfl (pre_of hp 18 rfl)]; exact ld_u8 ((HR0.out.ext hyu).head (by rw [HQ0L.out]; decide))))
                case o20 =>
                  intro f a u h hfi hp hq
                  have q91 := h.att 13 rfl (pre_of hp 13 rfl)
                  have q97 := h.att 19 rfl (pre_of hp 19 rfl)
                  exact h.yieldW rfl (wanted_yes (g := 10) (d' := 88) rfl rfl (h.at_ 10 rfl (pre_of hp 10 rfl))) 98 rfl (by change 98 < 117; decide) rfl _ rfl (by go_simp)
                case o21 =>
                  intro f a u h hfi hp hq
                  have q88 := h.att 10 rfl (pre_of hp 10 rfl)
                  have q98 := h.att 20 rfl (pre_of hp 20 rfl)
                  exact h.yieldW rfl (wanted_none rfl) 99 rfl (by change 99 < 117; decide) rfl _ rfl (by go_simp)
                case o22 =>
                  intro f a u h hfi hp hq
                  have q99 := h.att 21 rfl (pre_of hp 21 rfl)
                  exact h.yieldW rfl (wanted_none rfl) 100 rfl (by change 100 < 117; decide) rfl _ rfl (by go_simp)
                case o23 =>
                  intro f a u h hfi hp hq
                  exact h.skip rfl (wanted_not (g := 22) (d' := 100) rfl rfl (h.at_ 22 rfl (pre_of hp 22 rfl)) rfl) 101 rfl (by change 101 < 117; decide) rfl rfl
                case o24 =>
                  intro f a u h hfi hp hq
                  exact h.skip rfl (wanted_not (g := 22) (d' := 100) rfl rfl (h.at_ 22 rfl (pre_of hp 22 rfl)) rfl) 102 rfl (by change 102 < 117; decide) rfl rfl
                case o25 =>
                  intro f a u h hfi hp hq
                  exact h.skip rfl (wanted_not (g := 22) (d' := 100) rfl rfl (h.at_ 22 rfl (pre_of hp 22 rfl)) rfl) 103 rfl (by change 103 < 117; decide) rfl rfl
                case o26 =>
                  intro f a u h hfi hp hq
                  exact h.skip rfl (wanted_undef (g := 25) (d' := 103) rfl rfl (h.at_ 25 rfl (pre_of hp 25 rfl))) 104 rfl (by change 104 < 117; decide) rfl rfl
                case o27 =>
                  intro f a u h hfi hp hq
                  exact h.skip rfl (wanted_undef (g := 25) (d' := 103) rfl rfl (h.at_ 25 rfl (pre_of hp 25 rfl))) 105 rfl (by change 105 < 117; decide) rfl rfl
                case o28 =>
                  intro f a u h hfi hp hq
                  exact h.skip rfl (wanted_undef (g := 25) (d' := 103) rfl rfl (h.at_ 25 rfl (pre_of hp 25 rfl))) 106 rfl (by change 106 < 117; decide) rfl rfl
                case o29 =>
                  intro f a u h hfi hp hq
                  exact h.skip rfl (wanted_undef (g := 25) (d' := 103) rfl rfl (h.at_ 25 rfl (pre_of hp 25 rfl))) 107 rfl (by change 107 < 117; decide) rfl rfl
                case o30 =>
                  intro f a u h hfi hp hq
                  exact h.skip rfl (wanted_undef (g := 25) (d' := 103) rfl rfl (h.at_ 25 rfl (pre_of hp 25 rfl))) 108 rfl (by change 108 < 117; decide) rfl rfl
                case o31 =>
                  intro f a u h hfi hp hq
                  exact h.skip rfl (wanted_undef (g := 25) (d' := 103) rfl rfl (h.at_ 25 rfl (pre_of hp 25 rfl))) 109 rfl (by change 109 < 117; decide) rfl rfl
                case o32 =>
                  intro f a u h hfi hp hq
                  exact h.skip rfl (wanted_undef (g := 25) (d' := 103) rfl rfl (h.at_ 25 rfl (pre_of hp 25 rfl))) 110 rfl (by change 110 < 117; decide) rfl rfl
                case o33 =>
                  intro f a u h hfi hp hq
                  exact h.skip rfl (wanted_undef (g := 25) (d' := 103) rfl rfl (h.at_ 25 rfl (pre_of hp 25 rfl))) 111 rfl (by change 111 < 117; decide) rfl rfl
                case o34 =>
                  intro f a u h hfi hp hq
                  exact h.skip rfl (wanted_undef (g := 25) (d' := 103) rfl rfl (h.at_ 25 rfl (pre_of hp 25 rfl))) 112 rfl (by change 112 < 117; decide) rfl rfl
                case o35 =>
                  intro f a u h hfi hp hq
                  exact h.skip rfl (wanted_undef (g := 25) (d' := 103) rfl rfl (h.at_ 25 rfl (pre_of hp 25 rfl))) 113 rfl (by change 113 < 117; decide) rfl rfl
                case o36 =>
                  intro f a u h hfi hp hq
                  exact h.skip rfl (wanted_not (g := 22) (d' := 100) rfl rfl (h.at_ 22 rfl (pre_of hp 22 rfl)) rfl) 114 rfl (by change 114 < 117; decide) rfl rfl
                case o37 =>
                  intro f a u h hfi hp hq
                  have q100 := h.att 22 rfl (pre_of hp 22 rfl)
                  have q114 := h.att 36 rfl (pre_of hp 36 rfl)
                  exact h.yieldW rfl (wanted_none rfl) 115 rfl (by change 115 < 117; decide) rfl _ rfl (by go_simp)
              · intro f a u h hall hfar
                have hag := h.agree.out
                have e115 := h.at_ 37 rfl (hall 37 (by decide))
                have hye := ((Ext.refl w3).drew).trans h.ext
                simp only [List.foldl_cons, List.foldl_nil, Act.put, List.setIfInBounds_toArray, List.set_cons_zero, List.set_cons_succ, e115] at hag
                generalize a.eval (.tmp 78) = y78 at hag
                generalize a.eval (.tmp 79) = y79 at hag
                generalize a.eval (.tmp 80) = y80 at hag
                generalize a.eval (.tmp 81) = y81 at hag
                generalize a.eval (.tmp 82) = y82 at hag
                generalize a.eval (.tmp 83) = y83 at hag
                generalize a.eval (.tmp 84) = y84 at hag
                generalize a.eval (.tmp 85) = y85 at hag
                generalize a.eval (.tmp 86) = y86 at hag
                generalize a.eval (.tmp 87) = y87 at hag
                generalize a.eval (.tmp 88) = y88 at hag
                generalize a.eval (.tmp 89) = y89 at hag
                generalize a.eval (.tmp 90) = y90 at hag
                generalize a.eval (.tmp 91) = y91 at hag
                generalize a.eval (.tmp 92) = y92 at hag
                generalize a.eval (.tmp 93) = y93 at hag
                generalize a.eval (.tmp 94) = y94 at hag
                generalize a.eval (.tmp 95) = y95 at hag
                generalize a.eval (.tmp 96) = y96 at hag
                generalize a.eval (.tmp 97) = y97 at hag
                generalize a.eval (.tmp 98) = y98 at hag
                generalize a.eval (.tmp 99) = y99 at hag
                generalize a.eval (.tmp 100) = y100 at hag
                generalize a.eval (.tmp 101) = y101 at hag
                generalize a.eval (.tmp 102) = y102 at hag
                generalize a.eval (.tmp 103) = y103 at hag
                generalize a.eval (.tmp 104) = y104 at hag
                generalize a.eval (.tmp 105) = y105 at hag
                generalize a.eval (.tmp 106) = y106 at hag
                generalize a.eval (.tmp 107) = y107 at hag
                generalize a.eval (.tmp 108) = y108 at hag
                generalize a.eval (.tmp 109) = y109 at hag
                generalize a.eval (.tmp 110) = y110 at hag
                generalize a.eval (.tmp 111) = y111 at hag
                generalize a.eval (.tmp 112) = y112 at hag
                generalize a.eval (.tmp 113) = y113 at hag
                generalize a.eval (.tmp 114) = y114 at hag
                clear h hall hfar e115
                subst hag
                go_wp2
                go_ret
                exact ⟨ret_bool HF.out.symm, hxw.trans hye⟩
            | true =>
              rw [hkk] at hkb HOK
              have hkn : (((idKind q.2).toNat : Int) != ((idKind q0.2).toNat : Int)) = false := by unfold bne; rw [hkb]; rfl
              by_cases hpos : 0 < k
              · have hi1 : (0 : Int) < (k : Int) := by omega
                obtain ⟨j, hj⟩ : ∃ j, j = k - 1 := ⟨_, rfl⟩
                have hjk : j < K := by omega
                have e1 : (k : Int) - 1 = (j : Int) := by omega
                have e2 : IntKind.i64.wrap (j : Int) = (j : Int) := by rw [IntKind.wrap_i64]; omega
                obtain ⟨y, hy, rp, _, _⟩ := kd_row (Hh.out.ck.ext hxw) (i := j) (by rw [Hh.out.hk]; omega)
                cases hy
                have eq := kdAt_get (ks := t.kids) (i := j) (by rw [Hh.out.hk]; omega)
                obtain ⟨p, hp⟩ : ∃ p, p = (t.kids[j]'(by rw [Hh.out.hk]; omega)) := ⟨_, rfl⟩
                rw [← hp] at rp eq
                rw [← hj, eq, decide_eq_true (by omega), show (k == 0) = false from by rw [beq_eq_false_iff_ne]; omega] at HOK
                have HRP := Lib.hid rp
                clear hp eq rp hj
                cases hb : Op.bytesLess p.1.toList q.1.toList with
                | true =>
                  have HT := Lib.hid (HOK.out.trans (by unfold bslt; (try rw [hb]); try rfl))
                  refine wp_region_ops (RInv [78, 79, 80, 81, 82, 83, 84, 85, 86, 87, 88, 89, 90, 91, 92, 93, 94, 95, 96, 97, 98, 99, 100, 101, 102, 103, 104, 105, 106, 107, 108, 109, 110, 111, 112, 113, 114, 115] _ w3.drew [(0, 78, .pointer (some ⟨g6, 0, none⟩)), (1, 79, .string q.1), (2, 80, .int .i64 (q.1.size : Int)), (3, 81, .bool false), (4, 82, .bool false), (5, 83, .pointer (some ⟨g6, 1, none⟩)), (6, 84, .agg (bv q.2).toArray), (7, 85, .bool true), (8, 86, .bool false), (9, 87, .bool false), (10, 88, .bool false), (11, 89, .pointer (some ⟨g6, 1, none⟩)), (12, 90, .pointer (some ⟨g6, 1, none⟩)), (13, 91, .int .u8 ((idKind q.2).toNat : Int)), (14, 92, .pointer (some ⟨w.heap.size, 1, none⟩)), (15, 93, .slice (some x) K kc), (16, 94, .pointer (some (x.add (0 * 34)))), (17, 95, .pointer (some ((x.add (0 * 34)).add 1))), (18, 96, .pointer (some ((x.add (0 * 34)).add 1))), (19, 97, .int .u8 ((idKind q0.2).toNat : Int)), (20, 98, .bool false), (21, 99, .bool false), (22, 100, .bool false), (23, 101, .int .i64 (k : Int)), (24, 102, .bool true), (25, 103, .bool true), (26, 104, .pointer (some ⟨w.heap.size, 1, none⟩)), (27, 105, .slice (some x) K kc), (28, 106, .int .i64 (k : Int)), (29, 107, .int .i64 (j : Int)), (30, 108, .pointer (some (x.add (j * 34)))), (31, 109, .pointer (some (x.add (j * 34)))), (32, 110, .string p.1), (33, 111, .pointer (some ⟨g6, 0, none⟩)), (34, 112, .string q.1), (35, 113, .bool false), (36, 114, .bool false), (37, 115, .bool false)] []) (by kernel_rfl) (by kernel_rfl) RInv.start ?_ ?_
                  · refine ⟨?o0, ?o1, ?o2, ?o3, ?o4, ?o5, ?o6, ?o7, ?o8, ?o9, ?o10, ?o11, ?o12, ?o13, ?o14, ?o15, ?o16, ?o17, ?o18, ?o19, ?o20, ?o21, ?o22, ?o23, ?o24, ?o25, ?o26, ?o27, ?o28, ?o29, ?o30, ?o31, ?o32, ?o33, ?o34, ?o35, ?o36, ?o37, trivial⟩
                    case o0 =>
                      intro f a u h hfi hp hq
                      exact h.yieldW rfl (wanted_none rfl) 78 rfl (by change 78 < 117; decide) rfl _ rfl (run_of_sem rfl (by rw [(show a.eval (.tmp 6) = .pointer (some ⟨g6, 0, none⟩) from h.agree.eval (by decide))]; exact f_kid0 _ _))
                    case o1 =>
                      intro f a u h hfi hp hq
                      have hyu : Ext w3 u := ((Ext.refl w3).drew).trans h.ext
                      exact h.yieldW rfl (wanted_none rfl) 79 rfl (by change 79 < 117; decide) rfl _ rfl (run_of_sem rfl (by rw [h.at_ 0 rfl (pre_of hp 0 rfl)]; exact ld_str (kid_cells (HB6.out.ext hyu)).1))
                    case o2 =>
                      intro f a u h hfi hp hq
                      have q79 := h.att 1 rfl (pre_of hp 1 rfl)
                      exact h.yieldW rfl (wanted_none rfl) 80 rfl (by change 80 < 117; decide) rfl _ rfl (by go_simp)
                    case o3 =>
                      intro f a u h hfi hp hq
                      have q80 := h.att 2 rfl (pre_of hp 2 rfl)
                      exact h.yieldW rfl (wanted_none rfl) 81 rfl (by change 81 < 117; decide) rfl _ rfl (by go_simp)
                    case o4 =>
                      intro f a u h hfi hp hq
                      have q81 := h.att 3 rfl (pre_of hp 3 rfl)
                      exact h.yieldW rfl (wanted_none rfl) 82 rfl (by change 82 < 117; decide) rfl _ rfl (by go_simp)
                    case o5 =>
                      intro f a u h hfi hp hq
                      exact h.yieldW rfl (wanted_yes (g := 4) (d' := 82) rfl rfl (h.at_ 4 rfl (pre_of hp 4 rfl))) 83 rfl (by change 83 < 117; decide) rfl _ rfl (run_of_sem rfl (by rw [(show a.eval (.tmp 6) = .pointer (some ⟨g6, 0, none⟩) from h.agree.eval (by decide))]; exact f_kid1 _ _))
                    case o6 =>
                      intro f a u h hfi hp hq
                      have hyu : Ext w3 u := ((Ext.refl w3).drew).trans h.ext
                      exact h.yieldW rfl (wanted_yes (g := 4) (d' := 82) rfl rfl (h.at_ 4 rfl (pre_of hp 4 rfl))) 84 rfl (by change 84 < 117; decide) rfl _ rfl (run_of_sem rfl (by rw [h.at_ 5 rfl (pre_of hp 5 rfl)]; exact ld_id HQL.out (kid_cells (HB6.out.ext hyu)).2))
                    case o7 =>
                      intro f a u h hfi hp hq
                      exact h.callW rfl (wanted_yes (g := 4) (d' := 82) rfl rfl (h.at_ 4 rfl (pre_of hp 4 rfl))) 85 rfl (by change 85 < 117; decide) rfl _ rfl 93 #[.tmp 84] #[27] _ rfl (by kernel_rfl) (by rw [arr1, h.at_ 6 rfl (pre_of hp 6 rfl)]) (HGD u)
                    case o8 =>
                      intro f a u h hfi hp hq
                      have q85 := h.att 7 rfl (pre_of hp 7 rfl)
                      exact h.yieldW rfl (wanted_yes (g := 4) (d' := 82) rfl rfl (h.at_ 4 rfl (pre_of hp 4 rfl))) 86 rfl (by change 86 < 117; decide) rfl _ rfl (by go_simp)
                    case o9 =>
                      intro f a u h hfi hp hq
                      have q82 := h.att 4 rfl (pre_of hp 4 rfl)
                      have q86 := h.att 8 rfl (pre_of hp 8 rfl)
                      exact h.yieldW rfl (wanted_none rfl) 87 rfl (by change 87 < 117; decide) rfl _ rfl (by go_simp)
                    case o10 =>
                      intro f a u h hfi hp hq
                      have q87 := h.att 9 rfl (pre_of hp 9 rfl)
                      exact h.yieldW rfl (wanted_none rfl) 88 rfl (by change 88 < 117; decide) rfl _ rfl (by go_simp)
                    case o11 =>
                      intro f a u h hfi hp hq
                      exact h.yieldW rfl (wanted_yes (g := 10) (d' := 88) rfl rfl (h.at_ 10 rfl (pre_of hp 10 rfl))) 89 rfl (by change 89 < 117; decide) rfl _ rfl (run_of_sem rfl (by rw [(show a.eval (.tmp 6) = .pointer (some ⟨g6, 0, none⟩) from h.agree.eval (by decide))]; exact f_kid1 _ _))
                    case o12 =>
                      intro f a u h hfi hp hq
                      exact h.yieldW rfl (wanted_yes (g := 10) (d' := 88) rfl rfl (h.at_ 10 rfl (pre_of hp 10 rfl))) 90 rfl (by change 90 < 117; decide) rfl _ rfl (run_of_sem rfl (by rw [h.at_ 11 rfl (pre_of hp 11 rfl)]; exact f_id0 _ _))
                    case o13 =>
                      intro f a u h hfi hp hq
                      have hyu : Ext w3 u := ((Ext.refl w3).drew).trans h.ext
                      exact h.yieldW rfl (wanted_yes (g := 10) (d' := 88) rfl rfl (h.at_ 10 rfl (pre_of hp 10 rfl))) 91 rfl (by change 91 < 117; decide) rfl _ rfl (run_of_sem rfl (by rw [h.at_ 12 rfl (pre_of hp 12 rfl)]; exact ld_u8 ((kid_cells (HB6.out.ext hyu)).2.head (by rw [HQL.out]; decide))))
                    case o14 =>
                      intro f a u h hfi hp hq
                      exact h.yieldW rfl (wanted_yes (g := 10) (d' := 88) rfl rfl (h.at_ 10 rfl (pre_of hp 10 rfl))) 92 rfl (by change 92 < 117; decide) rfl _ rfl (run_of_sem rfl (by rw [(show a.eval (.tmp 1) = .pointer (some ⟨w.heap.size, 0, none⟩) from h.agree.eval (by decide))]; exact f_tree1 _ _))
                    case o15 =>
                      intro f a u h hfi hp hq
                      have hyu : Ext w3 u := ((Ext.refl w3).drew).trans h.ext
                      exact h.yieldW rfl (wanted_yes (g := 10) (d' := 88) rfl rfl (h.at_ 10 rfl (pre_of hp 10 rfl))) 93 rfl (by change 93 < 117; decide) rfl _ rfl (run_of_sem rfl (by rw [h.at_ 14 rfl (pre_of hp 14 rfl)]; exact ld_kids (tree_cells (HB1.out.ext hyu)).2))
                    case o16 =>
                      intro f a u h hfi hp hq
                      exact h.yieldW rfl (wanted_yes (g := 10) (d' := 88) rfl rfl (h.at_ 10 rfl (pre_of hp 10 rfl))) 94 rfl (by change 94 < 117; decide) rfl _ rfl (run_of_sem rfl (by rw [h.at_ 15 rfl (pre_of hp 15 rfl)]; exact ix_kid (i := 0) rfl (by omega)))
                    case o17 =>
                      intro f a u h hfi hp hq
                      exact h.yieldW rfl (wanted_yes (g := 10) (d' := 88) rfl rfl (h.at_ 10 rfl (pre_of hp 10 rfl))) 95 rfl (by change 95 < 117; decide) rfl _ rfl (run_of_sem rfl (by rw [h.at_ 16 rfl (pre_of hp 16 rfl)]; exact f_kid1 _ _))
                    case o18 =>
                      intro f a u h hfi hp hq
                      exact h.yieldW rfl (wanted_yes (g := 10) (d' := 88) rfl rfl (h.at_ 10 rfl (pre_of hp 10 rfl))) 96 rfl (by change 96 < 117; decide) rfl _ rfl (run_of_sem rfl (by rw [h.at_ 17 rfl (pre_of hp 17 rfl)]; exact f_id0 _ _))
                    case o19 =>
                      intro f a u h hfi hp hq
                      have hyu : Ext w3 u := ((Ext.refl w3).drew).trans h.ext
                      exact h.yieldW rfl (wanted_yes (g := 10) (d' := 88) rfl rfl (h.at_ 10 rfl (pre_of hp 10 rfl))) 97 rfl (by change 97 < 117; decide) rfl _ rfl (run_of_sem rfl (by rw [h.at_ 18 rfl (pre_of hp 18 rfl)]; exact ld_u8 ((HR0.out.ext hyu).head (by rw [HQ0L.out]; decide))))
                    case o20 =>
                      intro f a u h hfi hp hq
                      have q91 := h.att 13 rfl (pre_of hp 13 rfl)
                      have q97 := h.att 19 rfl (pre_of hp 19 rfl)
                      exact h.yieldW rfl (wanted_yes (g := 10) (d' := 88) rfl rfl (h.at_ 10 rfl (pre_of hp 10 rfl))) 98 rfl (by change 98 < 117; decide) rfl _ rfl (by go_simp)
                    case o21 =>
                      intro f a u h hfi hp hq
                      have q88 := h.att 10 rfl (pre_of hp 10 rfl)
                      have q98 := h.att 20 rfl (pre_of hp 20 rfl)
                      exact h.yieldW rfl (wanted_none rfl) 99 rfl (by change 99 < 117; decide) rfl _ rfl (by go_simp)
                    case o22 =>
                      intro f a u h hfi hp hq
                      have q99 := h.att 21 rfl (pre_of hp 21 rfl)
                      exact h.yieldW rfl (wanted_none rfl) 100 rfl (by change 100 < 117; decide) rfl _ rfl (by go_simp)
                    case o23 =>
                      intro f a u h hfi hp hq
                      have q5 : a.tmps[5]?.getD undef = .int .i64 (k : Int) := h.agree.att (by decide)
                      exact h.yieldW rfl (wanted_yes (g := 22) (d' := 100) rfl rfl (h.at_ 22 rfl (pre_of hp 22 rfl))) 101 rfl (by change 101 < 117; decide) rfl _ rfl (by go_simp)
                    case o24 =>
                      intro f a u h hfi hp hq
                      have q101 := h.att 23 rfl (pre_of hp 23 rfl)
                      exact h.yieldW rfl (wanted_yes (g := 22) (d' := 100) rfl rfl (h.at_ 22 rfl (pre_of hp 22 rfl))) 102 rfl (by change 102 < 117; decide) rfl _ rfl (by go_simp)
                    case o25 =>
                      intro f a u h hfi hp hq
                      have q102 := h.att 24 rfl (pre_of hp 24 rfl)
                      exact h.yieldW rfl (wanted_yes (g := 22) (d' := 100) rfl rfl (h.at_ 22 rfl (pre_of hp 22 rfl))) 103 rfl (by change 103 < 117; decide) rfl _ rfl (by go_simp)
                    case o26 =>
                      intro f a u h hfi hp hq
                      exact h.yieldW rfl (wanted_yes (g := 25) (d' := 103) rfl rfl (h.at_ 25 rfl (pre_of hp 25 rfl))) 104 rfl (by change 104 < 117; decide) rfl _ rfl (run_of_sem rfl (by rw [(show a.eval (.tmp 1) = .pointer (some ⟨w.heap.size, 0, none⟩) from h.agree.eval (by decide))]; exact f_tree1 _ _))
                    case o27 =>
                      intro f a u h hfi hp hq
                      have hyu : Ext w3 u := ((Ext.refl w3).drew).trans h.ext
                      exact h.yieldW rfl (wanted_yes (g := 25) (d' := 103) rfl rfl (h.at_ 25 rfl (pre_of hp 25 rfl))) 105 rfl (by change 105 < 117; decide) rfl _ rfl (run_of_sem rfl (by rw [h.at_ 26 rfl (pre_of hp 26 rfl)]; exact ld_kids (tree_cells (HB1.out.ext hyu)).2))
                    case o28 =>
                      intro f a u h hfi hp hq
                      have q5 : a.tmps[5]?.getD undef = .int .i64 (k : Int) := h.agree.att (by decide)
                      exact h.yieldW rfl (wanted_yes (g := 25) (d' := 103) rfl rfl (h.at_ 25 rfl (pre_of hp 25 rfl))) 106 rfl (by change 106 < 117; decide) rfl _ rfl (by go_simp)
                    case o29 =>
                      intro f a u h hfi hp hq
                      have q106 := h.att 28 rfl (pre_of hp 28 rfl)
                      exact h.yieldW rfl (wanted_yes (g := 25) (d' := 103) rfl rfl (h.at_ 25 rfl (pre_of hp 25 rfl))) 107 rfl (by change 107 < 117; decide) rfl _ rfl (by go_simp)
                    case o30 =>
                      intro f a u h hfi hp hq
                      exact h.yieldW rfl (wanted_yes (g := 25) (d' := 103) rfl rfl (h.at_ 25 rfl (pre_of hp 25 rfl))) 108 rfl (by change 108 < 117; decide) rfl _ rfl (run_of_sem rfl (by rw [h.at_ 27 rfl (pre_of hp 27 rfl), h.at_ 29 rfl (pre_of hp 29 rfl)]; exact ix_kid (i := j) rfl hjk))
                    case o31 =>
                      intro f a u h hfi hp hq
                      exact h.yieldW rfl (wanted_yes (g := 25) (d' := 103) rfl rfl (h.at_ 25 rfl (pre_of hp 25 rfl))) 109 rfl (by change 109 < 117; decide) rfl _ rfl (run_of_sem rfl (by rw [h.at_ 30 rfl (pre_of hp 30 rfl)]; exact f_kid0 _ _))
                    case o32 =>
                      intro f a u h hfi hp hq
                      have hyu : Ext w3 u := ((Ext.refl w3).drew).trans h.ext
                      exact h.yieldW rfl (wanted_yes (g := 25) (d' := 103) rfl rfl (h.at_ 25 rfl (pre_of hp 25 rfl))) 110 rfl (by change 110 < 117; decide) rfl _ rfl (run_of_sem rfl (by rw [h.at_ 31 rfl (pre_of hp 31 rfl)]; exact ld_str (hyu.cell HRP.out)))
                    case o33 =>
                      intro f a u h hfi hp hq
                      exact h.yieldW rfl (wanted_yes (g := 25) (d' := 103) rfl rfl (h.at_ 25 rfl (pre_of hp 25 rfl))) 111 rfl (by change 111 < 117; decide) rfl _ rfl (run_of_sem rfl (by rw [(show a.eval (.tmp 6) = .pointer (some ⟨g6, 0, none⟩) from h.agree.eval (by decide))]; exact f_kid0 _ _))
                    case o34 =>
                      intro f a u h hfi hp hq
                      have hyu : Ext w3 u := ((Ext.refl w3).drew).trans h.ext
                      exact h.yieldW rfl (wanted_yes (g := 25) (d' := 103) rfl rfl (h.at_ 25 rfl (pre_of hp 25 rfl))) 112 rfl (by change 112 < 117; decide) rfl _ rfl (run_of_sem rfl (by rw [h.at_ 33 rfl (pre_of hp 33 rfl)]; exact ld_str (kid_cells (HB6.out.ext hyu)).1))
                    case o35 =>
                      intro f a u h hfi hp hq
                      have q110 := h.att 32 rfl (pre_of hp 32 rfl)
                      have q112 := h.att 34 rfl (pre_of hp 34 rfl)
                      exact h.yieldW rfl (wanted_yes (g := 25) (d' := 103) rfl rfl (h.at_ 25 rfl (pre_of hp 25 rfl))) 113 rfl (by change 113 < 117; decide) rfl _ rfl (by go_simp)
                    case o36 =>
                      intro f a u h hfi hp hq
                      have q103 := h.att 25 rfl (pre_of hp 25 rfl)
                      have q113 := h.att 35 rfl (pre_of hp 35 rfl)
                      exact h.yieldW rfl (wanted_yes (g := 22) (d' := 100) rfl rfl (h.at_ 22 rfl (pre_of hp 22 rfl))) 114 rfl (by change 114 < 117; decide) rfl _ rfl (by go_simp)
                    case o37 =>
                      intro f a u h hfi hp hq
                      have q100 := h.att 22 rfl (pre_of hp 22 rfl)
                      have q114 := h.att 36 rfl (pre_of hp 36 rfl)
                      exact h.yieldW rfl (wanted_none rfl) 115 rfl (by change 115 < 117; decide) rfl _ rfl (by go_simp)
                  · intro f a u h hall hfar
                    have hag := h.agree.out
                    have e115 := h.at_ 37 rfl (hall 37 (by decide))
                    have hye := ((Ext.refl w3).drew).trans h.ext
                    simp only [List.foldl_cons, List.foldl_nil, Act.put, List.setIfInBounds_toArray, List.set_cons_zero, List.set_cons_succ, e115] at hag
                    generalize a.eval (.tmp 78) = y78 at hag
                    generalize a.eval (.tmp 79) = y79 at hag
                    generalize a.eval (.tmp 80) = y80 at hag
                    generalize a.eval (.tmp 81) = y81 at hag
                    generalize a.eval (.tmp 82) = y82 at hag
                    generalize a.eval (.tmp 83) = y83 at hag
                    generalize a.eval (.tmp 84) = y84 at hag
                    generalize a.eval (.tmp 85) = y85 at hag
                    generalize a.eval (.tmp 86) = y86 at hag
                    generalize a.eval (.tmp 87) = y87 at hag
                    generalize a.eval (.tmp 88) = y88 at hag
                    generalize a.eval (.tmp 89) = y89 at hag
                    generalize a.eval (.tmp 90) = y90 at hag
                    generalize a.eval (.tmp 91) = y91 at hag
                    generalize a.eval (.tmp 92) = y92 at hag
                    generalize a.eval (.tmp 93) = y93 at hag
                    generalize a.eval (.tmp 94) = y94 at hag
                    generalize a.eval (.tmp 95) = y95 at hag
                    generalize a.eval (.tmp 96) = y96 at hag
                    generalize a.eval (.tmp 97) = y97 at hag
                    generalize a.eval (.tmp 98) = y98 at hag
                    generalize a.eval (.tmp 99) = y99 at hag
                    generalize a.eval (.tmp 100) = y100 at hag
                    generalize a.eval (.tmp 101) = y101 at hag
                    generalize a.eval (.tmp 102) = y102 at hag
                    generalize a.eval (.tmp 103) = y103 at hag
                    generalize a.eval (.tmp 104) = y104 at hag
                    generalize a.eval (.tmp 105) = y105 at hag
                    generalize a.eval (.tmp 106) = y106 at hag
                    generalize a.eval (.tmp 107) = y107 at hag
                    generalize a.eval (.tmp 108) = y108 at hag
                    generalize a.eval (.tmp 109) = y109 at hag
                    generalize a.eval (.tmp 110) = y110 at hag
                    generalize a.eval (.tmp 111) = y111 at hag
                    generalize a.eval (.tmp 112) = y112 at hag
                    generalize a.eval (.tmp 113) = y113 at hag
                    generalize a.eval (.tmp 114) = y114 at hag
                    clear h hall hfar e115
                    subst hag
                    go_wp2
                    go_roundw
                    case rel => exact ⟨k + 1, by omega, by go_num, range_snoc hA.out HT.out, hxx.trans hye⟩
                    case measure => simp [intOf]; omega
                | false =>
                  have HF := Lib.hid (HNO.out (HOK.out.trans (by unfold bslt; (try rw [hb]); try rfl)))
                  refine wp_region_ops (RInv [78, 79, 80, 81, 82, 83, 84, 85, 86, 87, 88, 89, 90, 91, 92, 93, 94, 95, 96, 97, 98, 99, 100, 101, 102, 103, 104, 105, 106, 107, 108, 109, 110, 111, 112, 113, 114, 115] _ w3.drew [(0, 78, .pointer (some ⟨g6, 0, none⟩)), (1, 79, .string q.1), (2, 80, .int .i64 (q.1.size : Int)), (3, 81, .bool false), (4, 82, .bool false), (5, 83, .pointer (some ⟨g6, 1, none⟩)), (6, 84, .agg (bv q.2).toArray), (7, 85, .bool true), (8, 86, .bool false), (9, 87, .bool false), (10, 88, .bool false), (11, 89, .pointer (some ⟨g6, 1, none⟩)), (12, 90, .pointer (some ⟨g6, 1, none⟩)), (13, 91, .int .u8 ((idKind q.2).toNat : Int)), (14, 92, .pointer (some ⟨w.heap.size, 1, none⟩)), (15, 93, .slice (some x) K kc), (16, 94, .pointer (some (x.add (0 * 34)))), (17, 95, .pointer (some ((x.add (0 * 34)).add 1))), (18, 96, .pointer (some ((x.add (0 * 34)).add 1))), (19, 97, .int .u8 ((idKind q0.2).toNat : Int)), (20, 98, .bool false), (21, 99, .bool false), (22, 100, .bool false), (23, 101, .int .i64 (k : Int)), (24, 102, .bool true), (25, 103, .bool true), (26, 104, .pointer (some ⟨w.heap.size, 1, none⟩)), (27, 105, .slice (some x) K kc), (28, 106, .int .i64 (k : Int)), (29, 107, .int .i64 (j : Int)), (30, 108, .pointer (some (x.add (j * 34)))), (31, 109, .pointer (some (x.add (j * 34)))), (32, 110, .string p.1), (33, 111, .pointer (some ⟨g6, 0, none⟩)), (34, 112, .string q.1), (35, 113, .bool true), (36, 114, .bool true), (37, 115, .bool true)] []) (by kernel_rfl) (by kernel_rfl) RInv.start ?_ ?_
                  · refine ⟨?o0, ?o1, ?o2, ?o3, ?o4, ?o5, ?o6, ?o7, ?o8, ?o9, ?o10, ?o11, ?o12, ?o13, ?o14, ?o15, ?o16, ?o17, ?o18, ?o19, ?o20, ?o21, ?o22, ?o23, ?o24, ?o25, ?o26, ?o27, ?o28, ?o29, ?o30, ?o31, ?o32, ?o33, ?o34, ?o35, ?o36, ?o37, trivial⟩
                    case o0 =>
                      intro f a u h hfi hp hq
                      exact h.yieldW rfl (wanted_none rfl) 78 rfl (by change 78 < 117; decide) rfl _ rfl (run_of_sem rfl (by rw [(show a.eval (.tmp 6) = .pointer (some ⟨g6, 0, none⟩) from h.agree.eval (by decide))]; exact f_kid0 _ _))
                    case o1 =>
                      intro f a u h hfi hp hq
                      have hyu : Ext w3 u := ((Ext.refl w3).drew).trans h.ext
                      exact h.yieldW rfl (wanted_none rfl) 79 rfl (by change 79 < 117; decide) rfl _ rfl (run_of_sem rfl (by rw [h.at_ 0 rfl (pre_of hp 0 rfl)]; exact ld_str (kid_cells (HB6.out.ext hyu)).1))
                    case o2 =>
                      intro f a u h hfi hp hq
                      have q79 := h.att 1 rfl (pre_of hp 1 rfl)
                      exact h.yieldW rfl (wanted_none rfl) 80 rfl (by change 80 < 117; decide) rfl _ rfl (by go_simp)
                    case o3 =>
                      intro f a u h hfi hp hq
                      have q80 := h.att 2 rfl (pre_of hp 2 rfl)
                      exact h.yieldW rfl (wanted_none rfl) 81 rfl (by change 81 < 117; decide) rfl _ rfl (by go_simp)
                    case o4 =>
                      intro f a u h hfi hp hq
                      have q81 := h.att 3 rfl (pre_of hp 3 rfl)
                      exact h.yieldW rfl (wanted_none rfl) 82 rfl (by change 82 < 117; decide) rfl _ rfl (by go_simp)
                    case o5 =>
                      intro f a u h hfi hp hq
                      exact h.yieldW rfl (wanted_yes (g := 4) (d' := 82) rfl rfl (h.at_ 4 rfl (pre_of hp 4 rfl))) 83 rfl (by change 83 < 117; decide) rfl _ rfl (run_of_sem rfl (by rw [(show a.eval (.tmp 6) = .pointer (some ⟨g6, 0, none⟩) from h.agree.eval (by decide))]; exact f_kid1 _ _))
                    case o6 =>
                      intro f a u h hfi hp hq
                      have hyu : Ext w3 u := ((Ext.refl w3).drew).trans h.ext
                      exact h.yieldW rfl (wanted_yes (g := 4) (d' := 82) rfl rfl (h.at_ 4 rfl (pre_of hp 4 rfl))) 84 rfl (by change 84 < 117; decide) rfl _ rfl (run_of_sem rfl (by rw [h.at_ 5 rfl (pre_of hp 5 rfl)]; exact ld_id HQL.out (kid_cells (HB6.out.ext hyu)).2))
                    case o7 =>
                      intro f a u h hfi hp hq
                      exact h.callW rfl (wanted_yes (g := 4) (d' := 82) rfl rfl (h.at_ 4 rfl (pre_of hp 4 rfl))) 85 rfl (by change 85 < 117; decide) rfl _ rfl 93 #[.tmp 84] #[27] _ rfl (by kernel_rfl) (by rw [arr1, h.at_ 6 rfl (pre_of hp 6 rfl)]) (HGD u)
                    case o8 =>
                      intro f a u h hfi hp hq
                      have q85 := h.att 7 rfl (pre_of hp 7 rfl)
                      exact h.yieldW rfl (wanted_yes (g := 4) (d' := 82) rfl rfl (h.at_ 4 rfl (pre_of hp 4 rfl))) 86 rfl (by change 86 < 117; decide) rfl _ rfl (by go_simp)
                    case o9 =>
                      intro f a u h hfi hp hq
                      have q82 := h.att 4 rfl (pre_of hp 4 rfl)
                      have q86 := h.att 8 rfl (pre_of hp 8 rfl)
                      exact h.yieldW rfl (wanted_none rfl) 87 rfl (by change 87 < 117; decide) rfl _ rfl (by go_simp)
                    case o10 =>
                      intro f a u h hfi hp hq
                      have q87 := h.att 9 rfl (pre_of hp 9 rfl)
                      exact h.yieldW rfl (wanted_none rfl) 88 rfl (by change 88 < 117; decide) rfl _ rfl (by go_simp)
                    case o11 =>
                      intro f a u h hfi hp hq
                      exact h.yieldW rfl (wanted_yes (g := 10) (d' := 88) rfl rfl (h.at_ 10 rfl (pre_of hp 10 rfl))) 89 rfl (by change 89 < 117; decide) rfl _ rfl (run_of_sem rfl (by rw [(show a.eval (.tmp 6) = .pointer (some ⟨g6, 0, none⟩) from h.agree.eval (by decide))]; exact f_kid1 _ _))
                    case o12 =>
                      intro f a u h hfi hp hq
                      exact h.yieldW rfl (wanted_yes (g := 10) (d' := 88) rfl rfl (h.at_ 10 rfl (pre_of hp 10 rfl))) 90 rfl (by change 90 < 117; decide) rfl _ rfl (run_of_sem rfl (by rw [h.at_ 11 rfl (pre_of hp 11 rfl)]; exact f_id0 _ _))
                    case o13 =>
                      intro f a u h hfi hp hq
                      have hyu : Ext w3 u := ((Ext.refl w3).drew).trans h.ext
                      exact h.yieldW rfl (wanted_yes (g := 10) (d' := 88) rfl rfl (h.at_ 10 rfl (pre_of hp 10 rfl))) 91 rfl (by change 91 < 117; decide) rfl _ rfl (run_of_sem rfl (by rw [h.at_ 12 rfl (pre_of hp 12 rfl)]; exact ld_u8 ((kid_cells (HB6.out.ext hyu)).2.head (by rw [HQL.out]; decide))))
                    case o14 =>
                      intro f a u h hfi hp hq
                      exact h.yieldW rfl (wanted_yes (g := 10) (d' := 88) rfl rfl (h.at_ 10 rfl (pre_of hp 10 rfl))) 92 rfl (by change 92 < 117; decide) rfl _ rfl (run_of_sem rfl (by rw [(show a.eval (.tmp 1) = .pointer (some ⟨w.heap.size, 0, none⟩) from h.agree.eval (by decide))]; exact f_tree1 _ _))
                    case o15 =>
                      intro f a u h hfi hp hq
                      have hyu : Ext w3 u := ((Ext.refl w3).drew).trans h.ext
                      exact h.yieldW rfl (wanted_yes (g := 10) (d' := 88) rfl rfl (h.at_ 10 rfl (pre_of hp 10 rfl))) 93 rfl (by change 93 < 117; decide) rfl _ rfl (run_of_sem rfl (by rw [h.at_ 14 rfl (pre_of hp 14 rfl)]; exact ld_kids (tree_cells (HB1.out.ext hyu)).2))
                    case o16 =>
                      intro f a u h hfi hp hq
                      exact h.yieldW rfl (wanted_yes (g := 10) (d' := 88) rfl rfl (h.at_ 10 rfl (pre_of hp 10 rfl))) 94 rfl (by change 94 < 117; decide) rfl _ rfl (run_of_sem rfl (by rw [h.at_ 15 rfl (pre_of hp 15 rfl)]; exact ix_kid (i := 0) rfl (by omega)))
                    case o17 =>
                      intro f a u h hfi hp hq
                      exact h.yieldW rfl (wanted_yes (g := 10) (d' := 88) rfl rfl (h.at_ 10 rfl (pre_of hp 10 rfl))) 95 rfl (by change 95 < 117; decide) rfl _ rfl (run_of_sem rfl (by rw [h.at_ 16 rfl (pre_of hp 16 rfl)]; exact f_kid1 _ _))
                    case o18 =>
                      intro f a u h hfi hp hq
                      exact h.yieldW rfl (wanted_yes (g := 10) (d' := 88) rfl rfl (h.at_ 10 rfl (pre_of hp 10 rfl))) 96 rfl (by change 96 < 117; decide) rfl _ rfl (run_of_sem rfl (by rw [h.at_ 17 rfl (pre_of hp 17 rfl)]; exact f_id0 _ _))
                    case o19 =>
                      intro f a u h hfi hp hq
                      have hyu : Ext w3 u := ((Ext.refl w3).drew).trans h.ext
                      exact h.yieldW rfl (wanted_yes (g := 10) (d' := 88) rfl rfl (h.at_ 10 rfl (pre_of hp 10 rfl))) 97 rfl (by change 97 < 117; decide) rfl _ rfl (run_of_sem rfl (by rw [h.at_ 18 rfl (pre_of hp 18 rfl)]; exact ld_u8 ((HR0.out.ext hyu).head (by rw [HQ0L.out]; decide))))
                    case o20 =>
                      intro f a u h hfi hp hq
                      have q91 := h.att 13 rfl (pre_of hp 13 rfl)
                      have q97 := h.att 19 rfl (pre_of hp 19 rfl)
                      exact h.yieldW rfl (wanted_yes (g := 10) (d' := 88) rfl rfl (h.at_ 10 rfl (pre_of hp 10 rfl))) 98 rfl (by change 98 < 117; decide) rfl _ rfl (by go_simp)
                    case o21 =>
                      intro f a u h hfi hp hq
                      have q88 := h.att 10 rfl (pre_of hp 10 rfl)
                      have q98 := h.att 20 rfl (pre_of hp 20 rfl)
                      exact h.yieldW rfl (wanted_none rfl) 99 rfl (by change 99 < 117; decide) rfl _ rfl (by go_simp)
                    case o22 =>
                      intro f a u h hfi hp hq
                      have q99 := h.att 21 rfl (pre_of hp 21 rfl)
                      exact h.yieldW rfl (wanted_none rfl) 100 rfl (by change 100 < 117; decide) rfl _ rfl (by go_simp)
                    case o23 =>
                      intro f a u h hfi hp hq
                      have q5 : a.tmps[5]?.getD undef = .int .i64 (k : Int) := h.agree.att (by decide)
                      exact h.yieldW rfl (wanted_yes (g := 22) (d' := 100) rfl rfl (h.at_ 22 rfl (pre_of hp 22 rfl))) 101 rfl (by change 101 < 117; decide) rfl _ rfl (by go_simp)
                    case o24 =>
                      intro f a u h hfi hp hq
                      have q101 := h.att 23 rfl (pre_of hp 23 rfl)
                      exact h.yieldW rfl (wanted_yes (g := 22) (d' := 100) rfl rfl (h.at_ 22 rfl (pre_of hp 22 rfl))) 102 rfl (by change 102 < 117; decide) rfl _ rfl (by go_simp)
                    case o25 =>
                      intro f a u h hfi hp hq
                      have q102 := h.att 24 rfl (pre_of hp 24 rfl)
                      exact h.yieldW rfl (wanted_yes (g := 22) (d' := 100) rfl rfl (h.at_ 22 rfl (pre_of hp 22 rfl))) 103 rfl (by change 103 < 117; decide) rfl _ rfl (by go_simp)
                    case o26 =>
                      intro f a u h hfi hp hq
                      exact h.yieldW rfl (wanted_yes (g := 25) (d' := 103) rfl rfl (h.at_ 25 rfl (pre_of hp 25 rfl))) 104 rfl (by change 104 < 117; decide) rfl _ rfl (run_of_sem rfl (by rw [(show a.eval (.tmp 1) = .pointer (some ⟨w.heap.size, 0, none⟩) from h.agree.eval (by decide))]; exact f_tree1 _ _))
                    case o27 =>
                      intro f a u h hfi hp hq
                      have hyu : Ext w3 u := ((Ext.refl w3).drew).trans h.ext
                      exact h.yieldW rfl (wanted_yes (g := 25) (d' := 103) rfl rfl (h.at_ 25 rfl (pre_of hp 25 rfl))) 105 rfl (by change 105 < 117; decide) rfl _ rfl (run_of_sem rfl (by rw [h.at_ 26 rfl (pre_of hp 26 rfl)]; exact ld_kids (tree_cells (HB1.out.ext hyu)).2))
                    case o28 =>
                      intro f a u h hfi hp hq
                      have q5 : a.tmps[5]?.getD undef = .int .i64 (k : Int) := h.agree.att (by decide)
                      exact h.yieldW rfl (wanted_yes (g := 25) (d' := 103) rfl rfl (h.at_ 25 rfl (pre_of hp 25 rfl))) 106 rfl (by change 106 < 117; decide) rfl _ rfl (by go_simp)
                    case o29 =>
                      intro f a u h hfi hp hq
                      have q106 := h.att 28 rfl (pre_of hp 28 rfl)
                      exact h.yieldW rfl (wanted_yes (g := 25) (d' := 103) rfl rfl (h.at_ 25 rfl (pre_of hp 25 rfl))) 107 rfl (by change 107 < 117; decide) rfl _ rfl (by go_simp)
                    case o30 =>
                      intro f a u h hfi hp hq
                      exact h.yieldW rfl (wanted_yes (g := 25) (d' := 103) rfl rfl (h.at_ 25 rfl (pre_of hp 25 rfl))) 108 rfl (by change 108 < 117; decide) rfl _ rfl (run_of_sem rfl (by rw [h.at_ 27 rfl (pre_of hp 27 rfl), h.at_ 29 rfl (pre_of hp 29 rfl)]; exact ix_kid (i := j) rfl hjk))
                    case o31 =>
                      intro f a u h hfi hp hq
                      exact h.yieldW rfl (wanted_yes (g := 25) (d' := 103) rfl rfl (h.at_ 25 rfl (pre_of hp 25 rfl))) 109 rfl (by change 109 < 117; decide) rfl _ rfl (run_of_sem rfl (by rw [h.at_ 30 rfl (pre_of hp 30 rfl)]; exact f_kid0 _ _))
                    case o32 =>
                      intro f a u h hfi hp hq
                      have hyu : Ext w3 u := ((Ext.refl w3).drew).trans h.ext
                      exact h.yieldW rfl (wanted_yes (g := 25) (d' := 103) rfl rfl (h.at_ 25 rfl (pre_of hp 25 rfl))) 110 rfl (by change 110 < 117; decide) rfl _ rfl (run_of_sem rfl (by rw [h.at_ 31 rfl (pre_of hp 31 rfl)]; exact ld_str (hyu.cell HRP.out)))
                    case o33 =>
                      intro f a u h hfi hp hq
                      exact h.yieldW rfl (wanted_yes (g := 25) (d' := 103) rfl rfl (h.at_ 25 rfl (pre_of hp 25 rfl))) 111 rfl (by change 111 < 117; decide) rfl _ rfl (run_of_sem rfl (by rw [(show a.eval (.tmp 6) = .pointer (some ⟨g6, 0, none⟩) from h.agree.eval (by decide))]; exact f_kid0 _ _))
                    case o34 =>
                      intro f a u h hfi hp hq
                      have hyu : Ext w3 u := ((Ext.refl w3).drew).trans h.ext
                      exact h.yieldW rfl (wanted_yes (g := 25) (d' := 103) rfl rfl (h.at_ 25 rfl (pre_of hp 25 rfl))) 112 rfl (by change 112 < 117; decide) rfl _ rfl (run_of_sem rfl (by rw [h.at_ 33 rfl (pre_of hp 33 rfl)]; exact ld_str (kid_cells (HB6.out.ext hyu)).1))
                    case o35 =>
                      intro f a u h hfi hp hq
                      have q110 := h.att 32 rfl (pre_of hp 32 rfl)
                      have q112 := h.att 34 rfl (pre_of hp 34 rfl)
                      exact h.yieldW rfl (wanted_yes (g := 25) (d' := 103) rfl rfl (h.at_ 25 rfl (pre_of hp 25 rfl))) 113 rfl (by change 113 < 117; decide) rfl _ rfl (by go_simp)
                    case o36 =>
                      intro f a u h hfi hp hq
                      have q103 := h.att 25 rfl (pre_of hp 25 rfl)
                      have q113 := h.att 35 rfl (pre_of hp 35 rfl)
                      exact h.yieldW rfl (wanted_yes (g := 22) (d' := 100) rfl rfl (h.at_ 22 rfl (pre_of hp 22 rfl))) 114 rfl (by change 114 < 117; decide) rfl _ rfl (by go_simp)
                    case o37 =>
                      intro f a u h hfi hp hq
                      have q100 := h.att 22 rfl (pre_of hp 22 rfl)
                      have q114 := h.att 36 rfl (pre_of hp 36 rfl)
                      exact h.yieldW rfl (wanted_none rfl) 115 rfl (by change 115 < 117; decide) rfl _ rfl (by go_simp)
                  · intro f a u h hall hfar
                    have hag := h.agree.out
                    have e115 := h.at_ 37 rfl (hall 37 (by decide))
                    have hye := ((Ext.refl w3).drew).trans h.ext
                    simp only [List.foldl_cons, List.foldl_nil, Act.put, List.setIfInBounds_toArray, List.set_cons_zero, List.set_cons_succ, e115] at hag
                    generalize a.eval (.tmp 78) = y78 at hag
                    generalize a.eval (.tmp 79) = y79 at hag
                    generalize a.eval (.tmp 80) = y80 at hag
                    generalize a.eval (.tmp 81) = y81 at hag
                    generalize a.eval (.tmp 82) = y82 at hag
                    generalize a.eval (.tmp 83) = y83 at hag
                    generalize a.eval (.tmp 84) = y84 at hag
                    generalize a.eval (.tmp 85) = y85 at hag
                    generalize a.eval (.tmp 86) = y86 at hag
                    generalize a.eval (.tmp 87) = y87 at hag
                    generalize a.eval (.tmp 88) = y88 at hag
                    generalize a.eval (.tmp 89) = y89 at hag
                    generalize a.eval (.tmp 90) = y90 at hag
                    generalize a.eval (.tmp 91) = y91 at hag
                    generalize a.eval (.tmp 92) = y92 at hag
                    generalize a.eval (.tmp 93) = y93 at hag
                    generalize a.eval (.tmp 94) = y94 at hag
                    generalize a.eval (.tmp 95) = y95 at hag
                    generalize a.eval (.tmp 96) = y96 at hag
                    generalize a.eval (.tmp 97) = y97 at hag
                    generalize a.eval (.tmp 98) = y98 at hag
                    generalize a.eval (.tmp 99) = y99 at hag
                    generalize a.eval (.tmp 100) = y100 at hag
                    generalize a.eval (.tmp 101) = y101 at hag
                    generalize a.eval (.tmp 102) = y102 at hag
                    generalize a.eval (.tmp 103) = y103 at hag
                    generalize a.eval (.tmp 104) = y104 at hag
                    generalize a.eval (.tmp 105) = y105 at hag
                    generalize a.eval (.tmp 106) = y106 at hag
                    generalize a.eval (.tmp 107) = y107 at hag
                    generalize a.eval (.tmp 108) = y108 at hag
                    generalize a.eval (.tmp 109) = y109 at hag
                    generalize a.eval (.tmp 110) = y110 at hag
                    generalize a.eval (.tmp 111) = y111 at hag
                    generalize a.eval (.tmp 112) = y112 at hag
                    generalize a.eval (.tmp 113) = y113 at hag
                    generalize a.eval (.tmp 114) = y114 at hag
                    clear h hall hfar e115
                    subst hag
                    go_wp2
                    go_ret
                    exact ⟨ret_bool HF.out.symm, hxw.trans hye⟩
              · have hi0 : ¬ (0 : Int) < (k : Int) := by omega
                have HT := Lib.hid (HOK.out.trans (by rw [decide_eq_true (by omega), show (k == 0) = true from by rw [beq_iff_eq]; omega]; try rfl))
                refine wp_region_ops (RInv [78, 79, 80, 81, 82, 83, 84, 85, 86, 87, 88, 89, 90, 91, 92, 93, 94, 95, 96, 97, 98, 99, 100, 101, 102, 103, 104, 105, 106, 107, 108, 109, 110, 111, 112, 113, 114, 115] _ w3.drew [(0, 78, .pointer (some ⟨g6, 0, none⟩)), (1, 79, .string q.1), (2, 80, .int .i64 (q.1.size : Int)), (3, 81, .bool false), (4, 82, .bool false), (5, 83, .pointer (some ⟨g6, 1, none⟩)), (6, 84, .agg (bv q.2).toArray), (7, 85, .bool true), (8, 86, .bool false), (9, 87, .bool false), (10, 88, .bool false), (11, 89, .pointer (some ⟨g6, 1, none⟩)), (12, 90, .pointer (some ⟨g6, 1, none⟩)), (13, 91, .int .u8 ((idKind q.2).toNat : Int)), (14, 92, .pointer (some ⟨w.heap.size, 1, none⟩)), (15, 93, .slice (some x) K kc), (16, 94, .pointer (some (x.add (0 * 34)))), (17, 95, .pointer (some ((x.add (0 * 34)).add 1))), (18, 96, .pointer (some ((x.add (0 * 34)).add 1))), (19, 97, .int .u8 ((idKind q0.2).toNat : Int)), (20, 98, .bool false), (21, 99, .bool false), (22, 100, .bool false), (23, 101, .int .i64 (k : Int)), (24, 102, .bool false), (25, 103, .bool false), (26, 104, undef), (27, 105, undef), (28, 106, undef), (29, 107, undef), (30, 108, undef), (31, 109, undef), (32, 110, undef), (33, 111, undef), (34, 112, undef), (35, 113, undef), (36, 114, .bool false), (37, 115, .bool false)] []) (by kernel_rfl) (by kernel_rfl) RInv.start ?_ ?_
                · refine ⟨?o0, ?o1, ?o2, ?o3, ?o4, ?o5, ?o6, ?o7, ?o8, ?o9, ?o10, ?o11, ?o12, ?o13, ?o14, ?o15, ?o16, ?o17, ?o18, ?o19, ?o20, ?o21, ?o22, ?o23, ?o24, ?o25, ?o26, ?o27, ?o28, ?o29, ?o30, ?o31, ?o32, ?o33, ?o34, ?o35, ?o36, ?o37, trivial⟩
                  case o0 =>
                    intro f a u h hfi hp hq
                    exact h.yieldW rfl (wanted_none rfl) 78 rfl (by change 78 < 117; decide) rfl _ rfl (run_of_sem rfl (by rw [(show a.eval (.tmp 6) = .pointer (some ⟨g6, 0, none⟩) from h.agree.eval (by decide))]; exact f_kid0 _ _))
                  case o1 =>
                    intro f a u h hfi hp hq
                    have hyu : Ext w3 u := ((Ext.refl w3).drew).trans h.ext
                    exact h.yieldW rfl (wanted_none rfl) 79 rfl (by change 79 < 117; decide) rfl _ rfl (run_of_sem rfl (by rw [h.at_ 0 rfl (pre_of hp 0 rfl)]; exact ld_str (kid_cells (HB6.out.ext hyu)).1))
                  case o2 =>
                    intro f a u h hfi hp hq
                    have q79 := h.att 1 rfl (pre_of hp 1 rfl)
                    exact h.yieldW rfl (wanted_none rfl) 80 rfl (by change 80 < 117; decide) rfl _ rfl (by go_simp)
                  case o3 =>
                    intro f a u h hfi hp hq
                    have q80 := h.att 2 rfl (pre_of hp 2 rfl)
                    exact h.yieldW rfl (wanted_none rfl) 81 rfl (by change 81 < 117; decide) rfl _ rfl (by go_simp)
                  case o4 =>
                    intro f a u h hfi hp hq
                    have q81 := h.att 3 rfl (pre_of hp 3 rfl)
                    exact h.yieldW rfl (wanted_none rfl) 82 rfl (by change 82 < 117; decide) rfl _ rfl (by go_simp)
                  case o5 =>
                    intro f a u h hfi hp hq
                    exact h.yieldW rfl (wanted_yes (g := 4) (d' := 82) rfl rfl (h.at_ 4 rfl (pre_of hp 4 rfl))) 83 rfl (by change 83 < 117; decide) rfl _ rfl (run_of_sem rfl (by rw [(show a.eval (.tmp 6) = .pointer (some ⟨g6, 0, none⟩) from h.agree.eval (by decide))]; exact f_kid1 _ _))
                  case o6 =>
                    intro f a u h hfi hp hq
                    have hyu : Ext w3 u := ((Ext.refl w3).drew).trans h.ext
                    exact h.yieldW rfl (wanted_yes (g := 4) (d' := 82) rfl rfl (h.at_ 4 rfl (pre_of hp 4 rfl))) 84 rfl (by change 84 < 117; decide) rfl _ rfl (run_of_sem rfl (by rw [h.at_ 5 rfl (pre_of hp 5 rfl)]; exact ld_id HQL.out (kid_cells (HB6.out.ext hyu)).2))
                  case o7 =>
                    intro f a u h hfi hp hq
                    exact h.callW rfl (wanted_yes (g := 4) (d' := 82) rfl rfl (h.at_ 4 rfl (pre_of hp 4 rfl))) 85 rfl (by change 85 < 117; decide) rfl _ rfl 93 #[.tmp 84] #[27] _ rfl (by kernel_rfl) (by rw [arr1, h.at_ 6 rfl (pre_of hp 6 rfl)]) (HGD u)
                  case o8 =>
                    intro f a u h hfi hp hq
                    have q85 := h.att 7 rfl (pre_of hp 7 rfl)
                    exact h.yieldW rfl (wanted_yes (g := 4) (d' := 82) rfl rfl (h.at_ 4 rfl (pre_of hp 4 rfl))) 86 rfl (by change 86 < 117; decide) rfl _ rfl (by go_simp)
                  case o9 =>
                    intro f a u h hfi hp hq
                    have q82 := h.att 4 rfl (pre_of hp 4 rfl)
                    have q86 := h.att 8 rfl (pre_of hp 8 rfl)
                    exact h.yieldW rfl (wanted_none rfl) 87 rfl (by change 87 < 117; decide) rfl _ rfl (by go_simp)
                  case o10 =>
                    intro f a u h hfi hp hq
                    have q87 := h.att 9 rfl (pre_of hp 9 rfl)
                    exact h.yieldW rfl (wanted_none rfl) 88 rfl (by change 88 < 117; decide) rfl _ rfl (by go_simp)
                  case o11 =>
                    intro f a u h hfi hp hq
                    exact h.yieldW rfl (wanted_yes (g := 10) (d' := 88) rfl rfl (h.at_ 10 rfl (pre_of hp 10 rfl))) 89 rfl (by change 89 < 117; decide) rfl _ rfl (run_of_sem rfl (by rw [(show a.eval (.tmp 6) = .pointer (some ⟨g6, 0, none⟩) from h.agree.eval (by decide))]; exact f_kid1 _ _))
                  case o12 =>
                    intro f a u h hfi hp hq
                    exact h.yieldW rfl (wanted_yes (g := 10) (d' := 88) rfl rfl (h.at_ 10 rfl (pre_of hp 10 rfl))) 90 rfl (by change 90 < 117; decide) rfl _ rfl (run_of_sem rfl (by rw [h.at_ 11 rfl (pre_of hp 11 rfl)]; exact f_id0 _ _))
                  case o13 =>
                    intro f a u h hfi hp hq
                    have hyu : Ext w3 u := ((Ext.refl w3).drew).trans h.ext
                    exact h.yieldW rfl (wanted_yes (g := 10) (d' := 88) rfl rfl (h.at_ 10 rfl (pre_of hp 10 rfl))) 91 rfl (by change 91 < 117; decide) rfl _ rfl (run_of_sem rfl (by rw [h.at_ 12 rfl (pre_of hp 12 rfl)]; exact ld_u8 ((kid_cells (HB6.out.ext hyu)).2.head (by rw [HQL.out]; decide))))
                  case o14 =>
                    intro f a u h hfi hp hq
                    exact h.yieldW rfl (wanted_yes (g := 10) (d' := 88) rfl rfl (h.at_ 10 rfl (pre_of hp 10 rfl))) 92 rfl (by change 92 < 117; decide) rfl _ rfl (run_of_sem rfl (by rw [(show a.eval (.tmp 1) = .pointer (some ⟨w.heap.size, 0, none⟩) from h.agree.eval (by decide))]; exact f_tree1 _ _))
                  case o15 =>
                    intro f a u h hfi hp hq
                    have hyu : Ext w3 u := ((Ext.refl w3).drew).trans h.ext
                    exact h.yieldW rfl (wanted_yes (g := 10) (d' := 88) rfl rfl (h.at_ 10 rfl (pre_of hp 10 rfl))) 93 rfl (by change 93 < 117; decide) rfl _ rfl (run_of_sem rfl (by rw [h.at_ 14 rfl (pre_of hp 14 rfl)]; exact ld_kids (tree_cells (HB1.out.ext hyu)).2))
                  case o16 =>
                    intro f a u h hfi hp hq
                    exact h.yieldW rfl (wanted_yes (g := 10) (d' := 88) rfl rfl (h.at_ 10 rfl (pre_of hp 10 rfl))) 94 rfl (by change 94 < 117; decide) rfl _ rfl (run_of_sem rfl (by rw [h.at_ 15 rfl (pre_of hp 15 rfl)]; exact ix_kid (i := 0) rfl (by omega)))
                  case o17 =>
                    intro f a u h hfi hp hq
                    exact h.yieldW rfl (wanted_yes (g := 10) (d' := 88) rfl rfl (h.at_ 10 rfl (pre_of hp 10 rfl))) 95 rfl (by change 95 < 117; decide) rfl _ rfl (run_of_sem rfl (by rw [h.at_ 16 rfl (pre_of hp 16 rfl)]; exact f_kid1 _ _))
                  case o18 =>
                    intro f a u h hfi hp hq
                    exact h.yieldW rfl (wanted_yes (g := 10) (d' := 88) rfl rfl (h.at_ 10 rfl (pre_of hp 10 rfl))) 96 rfl (by change 96 < 117; decide) rfl _ rfl (run_of_sem rfl (by rw [h.at_ 17 rfl (pre_of hp 17 rfl)]; exact f_id0 _ _))
                  case o19 =>
                    intro f a u h hfi hp hq
                    have hyu : Ext w3 u := ((Ext.refl w3).drew).trans h.ext
                    exact h.yieldW rfl (wanted_yes (g := 10) (d' := 88) rfl rfl (h.at_ 10 rfl (pre_of hp 10 rfl))) 97 rfl (by change 97 < 117; decide) rfl _ rfl (run_of_sem rfl (by rw [h.at_ 18 rfl (pre_of hp 18 rfl)]; exact ld_u8 ((HR0.out.ext hyu).head (by rw [HQ0L.out]; decide))))
                  case o20 =>
                    intro f a u h hfi hp hq
                    have q91 := h.att 13 rfl (pre_of hp 13 rfl)
                    have q97 := h.att 19 rfl (pre_of hp 19 rfl)
                    exact h.yieldW rfl (wanted_yes (g := 10) (d' := 88) rfl rfl (h.at_ 10 rfl (pre_of hp 10 rfl))) 98 rfl (by change 98 < 117; decide) rfl _ rfl (by go_simp)
                  case o21 =>
                    intro f a u h hfi hp hq
                    have q88 := h.att 10 rfl (pre_of hp 10 rfl)
                    have q98 := h.att 20 rfl (pre_of hp 20 rfl)
                    exact h.yieldW rfl (wanted_none rfl) 99 rfl (by change 99 < 117; decide) rfl _ rfl (by go_simp)
                  case o22 =>
                    intro f a u h hfi hp hq
                    have q99 := h.att 21 rfl (pre_of hp 21 rfl)
                    exact h.yieldW rfl (wanted_none rfl) 100 rfl (by change 100 < 117; decide) rfl _ rfl (by go_simp)
                  case o23 =>
                    intro f a u h hfi hp hq
                    have q5 : a.tmps[5]?.getD undef = .int .i64 (k : Int) := h.agree.att (by decide)
                    exact h.yieldW rfl (wanted_yes (g := 22) (d' := 100) rfl rfl (h.at_ 22 rfl (pre_of hp 22 rfl))) 101 rfl (by change 101 < 117; decide) rfl _ rfl (by go_simp)
                  case o24 =>
                    intro f a u h hfi hp hq
                    have q101 := h.att 23 rfl (pre_of hp 23 rfl)
                    exact h.yieldW rfl (wanted_yes (g := 22) (d' := 100) rfl rfl (h.at_ 22 rfl (pre_of hp 22 rfl))) 102 rfl (by change 102 < 117; decide) rfl _ rfl (by go_simp)
                  case o25 =>
                    intro f a u h hfi hp hq
                    have q102 := h.att 24 rfl (pre_of hp 24 rfl)
                    exact h.yieldW rfl (wanted_yes (g := 22) (d' := 100) rfl rfl (h.at_ 22 rfl (pre_of hp 22 rfl))) 103 rfl (by change 103 < 117; decide) rfl _ rfl (by go_simp)
                  case o26 =>
                    intro f a u h hfi hp hq
                    exact h.skip rfl (wanted_not (g := 25) (d' := 103) rfl rfl (h.at_ 25 rfl (pre_of hp 25 rfl)) rfl) 104 rfl (by change 104 < 117; decide) rfl rfl
                  case o27 =>
                    intro f a u h hfi hp hq
                    exact h.skip rfl (wanted_not (g := 25) (d' := 103) rfl rfl (h.at_ 25 rfl (pre_of hp 25 rfl)) rfl) 105 rfl (by change 105 < 117; decide) rfl rfl
                  case o28 =>
                    intro f a u h hfi hp hq
                    exact h.skip rfl (wanted_not (g := 25) (d' := 103) rfl rfl (h.at_ 25 rfl (pre_of hp 25 rfl)) rfl) 106 rfl (by change 106 < 117; decide) rfl rfl
                  case o29 =>
                    intro f a u h hfi hp hq
                    exact h.skip rfl (wanted_not (g := 25) (d' := 103) rfl rfl (h.at_ 25 rfl (pre_of hp 25 rfl)) rfl) 107 rfl (by change 107 < 117; decide) rfl rfl
                  case o30 =>
                    intro f a u h hfi hp hq
                    exact h.skip rfl (wanted_not (g := 25) (d' := 103) rfl rfl (h.at_ 25 rfl (pre_of hp 25 rfl)) rfl) 108 rfl (by change 108 < 117; decide) rfl rfl
                  case o31 =>
                    intro f a u h hfi hp hq
                    exact h.skip rfl (wanted_not (g := 25) (d' := 103) rfl rfl (h.at_ 25 rfl (pre_of hp 25 rfl)) rfl) 109 rfl (by change 109 < 117; decide) rfl rfl
                  case o32 =>
                    intro f a u h hfi hp hq
                    exact h.skip rfl (wanted_not (g := 25) (d' := 103) rfl rfl (h.at_ 25 rfl (pre_of hp 25 rfl)) rfl) 110 rfl (by change 110 < 117; decide) rfl rfl
                  case o33 =>
                    intro f a u h hfi hp hq
                    exact h.skip rfl (wanted_not (g := 25) (d' := 103) rfl rfl (h.at_ 25 rfl (pre_of hp 25 rfl)) rfl) 111 rfl (by change 111 < 117; decide) rfl rfl
                  case o34 =>
                    intro f a u h hfi hp hq
                    exact h.skip rfl (wanted_not (g := 25) (d' := 103) rfl rfl (h.at_ 25 rfl (pre_of hp 25 rfl)) rfl) 112 rfl (by change 112 < 117; decide) rfl rfl
                  case o35 =>
                    intro f a u h hfi hp hq
                    exact h.skip rfl (wanted_not (g := 25) (d' := 103) rfl rfl (h.at_ 25 rfl (pre_of hp 25 rfl)) rfl) 113 rfl (by change 113 < 117; decide) rfl rfl
                  case o36 =>
                    intro f a u h hfi hp hq
                    have q103 := h.att 25 rfl (pre_of hp 25 rfl)
                    have q113 := h.att 35 rfl (pre_of hp 35 rfl)
                    exact h.yieldW rfl (wanted_yes (g := 22) (d' := 100) rfl rfl (h.at_ 22 rfl (pre_of hp 22 rfl))) 114 rfl (by change 114 < 117; decide) rfl _ rfl (by go_simp)
                  case o37 =>
                    intro f a u h hfi hp hq
                    have q100 := h.att 22 rfl (pre_of hp 22 rfl)
                    have q114 := h.att 36 rfl (pre_of hp 36 rfl)
                    exact h.yieldW rfl (wanted_none rfl) 115 rfl (by change 115 < 117; decide) rfl _ rfl (by go_simp)
                · intro f a u h hall hfar
                  have hag := h.agree.out
                  have e115 := h.at_ 37 rfl (hall 37 (by decide))
                  have hye := ((Ext.refl w3).drew).trans h.ext
                  simp only [List.foldl_cons, List.foldl_nil, Act.put, List.setIfInBounds_toArray, List.set_cons_zero, List.set_cons_succ, e115] at hag
                  generalize a.eval (.tmp 78) = y78 at hag
                  generalize a.eval (.tmp 79) = y79 at hag
                  generalize a.eval (.tmp 80) = y80 at hag
                  generalize a.eval (.tmp 81) = y81 at hag
                  generalize a.eval (.tmp 82) = y82 at hag
                  generalize a.eval (.tmp 83) = y83 at hag
                  generalize a.eval (.tmp 84) = y84 at hag
                  generalize a.eval (.tmp 85) = y85 at hag
                  generalize a.eval (.tmp 86) = y86 at hag
                  generalize a.eval (.tmp 87) = y87 at hag
                  generalize a.eval (.tmp 88) = y88 at hag
                  generalize a.eval (.tmp 89) = y89 at hag
                  generalize a.eval (.tmp 90) = y90 at hag
                  generalize a.eval (.tmp 91) = y91 at hag
                  generalize a.eval (.tmp 92) = y92 at hag
                  generalize a.eval (.tmp 93) = y93 at hag
                  generalize a.eval (.tmp 94) = y94 at hag
                  generalize a.eval (.tmp 95) = y95 at hag
                  generalize a.eval (.tmp 96) = y96 at hag
                  generalize a.eval (.tmp 97) = y97 at hag
                  generalize a.eval (.tmp 98) = y98 at hag
                  generalize a.eval (.tmp 99) = y99 at hag
                  generalize a.eval (.tmp 100) = y100 at hag
                  generalize a.eval (.tmp 101) = y101 at hag
                  generalize a.eval (.tmp 102) = y102 at hag
                  generalize a.eval (.tmp 103) = y103 at hag
                  generalize a.eval (.tmp 104) = y104 at hag
                  generalize a.eval (.tmp 105) = y105 at hag
                  generalize a.eval (.tmp 106) = y106 at hag
                  generalize a.eval (.tmp 107) = y107 at hag
                  generalize a.eval (.tmp 108) = y108 at hag
                  generalize a.eval (.tmp 109) = y109 at hag
                  generalize a.eval (.tmp 110) = y110 at hag
                  generalize a.eval (.tmp 111) = y111 at hag
                  generalize a.eval (.tmp 112) = y112 at hag
                  generalize a.eval (.tmp 113) = y113 at hag
                  generalize a.eval (.tmp 114) = y114 at hag
                  clear h hall hfar e115
                  subst hag
                  go_wp2
                  go_roundw
                  case rel => exact ⟨k + 1, by omega, by go_num, range_snoc hA.out HT.out, hxx.trans hye⟩
                  case measure => simp [intOf]; omega
        · obtain rfl : k = K := by omega
          have hp0 : t.pairs = [] := List.eq_nil_of_length_eq_zero Hh.out.hp
          have HT := Lib.hid (show ((List.range t.pairs.length).all (prOk t.pairs) && (List.range t.kids.length).all (kdOk t.kids)) = true from by rw [Hh.out.hk, hA.out, hp0]; rfl)
          clear hp0
          go_wp2
          go_ret
          exact ⟨ret_bool HT.out.symm, hx0.trans hx⟩
  · have Hh := Lib.hid h
    clear h
    go_enter Tryd.func83, Tryd.ntmps83
    have hbox : Blk (w.alloc (.cells #[.slice pa 0 pc, .slice ka 0 kc] 73)) w.heap.size 73 #[.slice pa 0 pc, .slice ka 0 kc] := Blk.new w _ _
    have hx0 : Ext w (w.alloc (.cells #[.slice pa 0 pc, .slice ka 0 kc] 73)) := (Ext.refl _).alloc _
    have Hbox := Lib.hid hbox
    obtain ⟨c0, c1⟩ := tree_cells hbox
    clear hbox
    have hp0 : t.pairs = [] := List.eq_nil_of_length_eq_zero Hh.out.hp
    have hk0 : t.kids = [] := List.eq_nil_of_length_eq_zero Hh.out.hk
    have HT := Lib.hid (show ((List.range t.pairs.length).all (prOk t.pairs) && (List.range t.kids.length).all (kdOk t.kids)) = true from by rw [hp0, hk0]; rfl)
    clear hp0 hk0
    go_wp2
    go_loop [38] (fun i => i = .int .i64 0) (fun i => 0)
    case atStart => rfl
    case round =>
      subst hrel
      go_wp2
      go_loop [73] (fun i => i = .int .i64 0) (fun i => 0)
      case atStart => rfl
      case round =>
        subst hrel
        go_wp2
        go_ret
        exact ⟨ret_bool HT.out.symm, hx0⟩
/-- GoodTree. -/
theorem goodTree_calls (t : Tr) (pa ka : Option Addr) (P K pc kc : Nat) (w : World) (h : TrAt w t pa ka P K pc kc) :
    Calls Tryd.prog 83 #[tra pa P pc ka K kc] w fun e w' => e = .returned (.bool t.good) ∧ Ext w w' := by
  have hP := h.hp
  have hK := h.hk
  by_cases hs : 4 < P ∨ (P ≤ 4 ∧ 3 < K) ∨ (P ≤ 4 ∧ K ≤ 3 ∧ 0 < P ∧ 0 < K) ∨ (P = 0 ∧ K = 1)
  · have hg : t.good = false := by
      unfold Tr.good Tr.shape
      rw [hP, hK]
      rcases hs with hs | ⟨h1, h2⟩ | ⟨h1, h2, h3, h4⟩ | ⟨rfl, rfl⟩
      · rw [decide_eq_false (show ¬ P ≤ 4 by omega)]; rfl
      · rw [decide_eq_false (show ¬ K ≤ 3 by omega)]; simp
      · rw [decide_eq_true h3, decide_eq_true h4]; simp
      · rfl
    rw [hg]
    exact goodTree_bad t pa ka P K pc kc w h hs
  · have hg : t.good = ((List.range t.pairs.length).all (prOk t.pairs) && (List.range t.kids.length).all (kdOk t.kids)) := by
      have : t.shape = true := by
        unfold Tr.shape
        rw [hP, hK]
        have a1 : P ≤ 4 := by omega
        have a2 : K ≤ 3 := by omega
        have a3 : (decide (0 < P) && decide (0 < K)) = false := by
          by_cases h0 : 0 < P
          · rw [decide_eq_false (show ¬ 0 < K by omega), Bool.and_false]
          · rw [decide_eq_false h0, Bool.false_and]
        have a4 : (K == 1) = false := by rw [beq_eq_false_iff_ne]; omega
        rw [decide_eq_true a1, decide_eq_true a2, a3, a4]; rfl
      unfold Tr.good
      rw [this, Bool.true_and]
    rw [hg]
    exact goodTree_ok t pa ka P K pc kc w h (by omega)
end Go.Proofs.YtcnhbodemabbdaaDoor
