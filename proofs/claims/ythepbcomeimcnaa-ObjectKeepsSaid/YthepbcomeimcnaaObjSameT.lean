/- The walk of the reference's SameTree, of two copies of one tree. Printed by wip/mkobjsamet.py. -/
import Derived.Test.YthepbcomeimcnaaObjSameK
namespace Go.Proofs.Ythepbcomeimcnaa
open Go.RowKit
set_option linter.unusedVariables false

theorem ld_kid {w : World} {p : Addr} {r : Kd} (hr : r.2.length = 33) (h : ∀ j v, (kdC r)[j]? = some v → w.cell? (p.add j) = some v) : (Instr.loadAt 59 (.pointer (some p))).run Try.prog w = .ok (.agg (kdC r).toArray) w :=
  run_loadAt_row w p 59 (kdC r) _ h Try.underlying59 rfl (by rw [kd_info, kdC_len hr])
set_option maxRecDepth 100000 in
set_option maxHeartbeats 8000000 in
theorem sameTree_calls (t : Tr) (pa ka pb kb : Option Addr) (P K pc kc pd kd : Nat) (w : World) (h : TrAt w t pa ka P K pc kc) (h' : TrAt w t pb kb P K pd kd) :
    Calls Try.prog 13 #[tra pa P pc ka K kc, tra pb P pd kb K kd] w fun e w' => e = .returned (.bool true) ∧ Ext w w' := by
  have Hh := Lib.hid h
  have Hk := Lib.hid h'
  have hbp := h.bp
  have hbk := h.bk
  clear h h'
  go_enter Try.func13, Try.ntmps13
  obtain ⟨w0, hw0⟩ : ∃ w0, w0 = (w.alloc (.cells #[.slice pa P pc, .slice ka K kc] 25)).alloc (.cells #[.slice pb P pd, .slice kb K kd] 25) := ⟨_, rfl⟩
  have hx0 : Ext w w0 := by rw [hw0]; exact ((Ext.refl _).alloc _).alloc _
  have Hba := Lib.hid (show Blk w0 w.heap.size 25 #[.slice pa P pc, .slice ka K kc] from by rw [hw0]; exact (Blk.new w _ _).ext ((Ext.refl _).alloc _))
  have Hbb := Lib.hid (show Blk w0 (w.heap.size + 1) 25 #[.slice pb P pd, .slice kb K kd] from by rw [hw0]; have e := Blk.new (w.alloc (.cells #[.slice pa P pc, .slice ka K kc] 25)) 25 #[.slice pb P pd, .slice kb K kd]; simpa using e)
  go_upto_region 1 with (fail)
  rw [← hw0]
  clear hw0
  obtain ⟨g, hg⟩ : ∃ g, g = w.heap.size := ⟨_, rfl⟩
  rw [← hg] at Hba Hbb ⊢
  clear hg
  obtain ⟨c0, c1⟩ := tree_cells Hba.out
  obtain ⟨d0, d1⟩ := tree_cells Hbb.out
  go_wp2_with (go_at_call 28; (with_reducible refine (same_calls t.pairs pa pb P pc pd _ Hh.out.hp (Hh.out.cp.ext hx0) (Hk.out.cp.ext hx0) hbp).mono ?_); rintro e w1 ⟨rfl, hx1⟩; clear c0 c1 d0 d1; obtain ⟨c0, c1⟩ := tree_cells (Hba.out.ext hx1); obtain ⟨d0, d1⟩ := tree_cells (Hbb.out.ext hx1))
  clear c0 c1 d0 d1
  go_loopw [24, 5] (fun i v wr => ∃ (k : Nat), k ≤ K ∧ i = .int .i64 k ∧ Ext w0 wr) (fun i _ _ => K - (intOf i).toNat)
  case atStart => exact ⟨0, Nat.zero_le _, rfl, hx1⟩
  case round =>
    obtain ⟨k, hk, rfl, hx⟩ := hrel
    by_cases hlt : k < K
    · have hkl : k < t.kids.length := by rw [Hh.out.hk]; exact hlt
      obtain ⟨x, rfl, _, _, r0⟩ := kd_row (Hh.out.ck.ext (hx0.trans hx)) hkl
      obtain ⟨y, rfl, _, _, s0⟩ := kd_row (Hk.out.ck.ext (hx0.trans hx)) hkl
      have hql : (t.kids[k]).2.length = 33 := (Hh.out.sk _ (List.getElem_mem hkl)).2
      generalize t.kids[k] = p at r0 s0 hql
      obtain ⟨cs, hcs⟩ : ∃ cs, cs = (kdC p).toArray := ⟨_, rfl⟩
      have z := fun u => kid_equal p hql u
      rw [← hcs] at z
      have HCS := Lib.hid hcs
      have HQL := Lib.hid hql
      have R0 := Lib.hid r0
      have S0 := Lib.hid s0
      clear hcs hql r0 s0
      go_upto_region 6 with (fail)
      refine wp_region_ops (FInv [27, 28, 29, 30, 31, 32, 33, 34, 35, 36, 37] _ wr.drew [⟨0, none, 27, .val (.pointer (some ⟨g, 1, none⟩))⟩, ⟨1, none, 28, .val (.slice (some x) K kc)⟩, ⟨2, none, 29, .val (.int .i64 (k : Int))⟩, ⟨3, none, 30, .val (.pointer (some (x.add (k * 34))))⟩, ⟨4, none, 31, .val (.agg cs)⟩, ⟨5, none, 32, .val (.pointer (some ⟨g + 1, 1, none⟩))⟩, ⟨6, none, 33, .val (.slice (some y) K kd)⟩, ⟨7, none, 34, .val (.int .i64 (k : Int))⟩, ⟨8, none, 35, .val (.pointer (some (y.add (k * 34))))⟩, ⟨9, none, 36, .val (.agg cs)⟩, ⟨10, none, 37, .val (.bool false)⟩]) (by kernel_rfl) (by kernel_rfl) FInv.start ?_ ?_
      · refine ⟨?o0, ?o1, ?o2, ?o3, ?o4, ?o5, ?o6, ?o7, ?o8, ?o9, ?o10, trivial⟩
        case o0 =>
          intro f a u h hfi hp hq
          exact h.yieldG rfl (wanted_none rfl) 27 rfl (by change 27 < 39; decide) rfl _ rfl (run_of_sem rfl (by rw [(show a.eval (.tmp 2) = .pointer (some ⟨g, 0, none⟩) from h.agree.eval (by decide))]; exact f_tree1 _ _))
        case o1 =>
          intro f a u h hfi hp hq
          have hyu : Ext wr u := ((Ext.refl wr).drew).trans h.ext
          exact h.yieldG rfl (wanted_none rfl) 28 rfl (by change 28 < 39; decide) rfl _ rfl (run_of_sem rfl (by rw [h.at_ 0 rfl (pre_of hp 0 rfl)]; exact ld_kids (tree_cells (Hba.out.ext (hx.trans hyu))).2))
        case o2 =>
          intro f a u h hfi hp hq
          have q5 : a.tmps[5]?.getD undef = .int .i64 (k : Int) := h.agree.att (by decide)
          exact h.yieldG rfl (wanted_none rfl) 29 rfl (by change 29 < 39; decide) rfl _ rfl (by go_simp)
        case o3 =>
          intro f a u h hfi hp hq
          exact h.yieldG rfl (wanted_none rfl) 30 rfl (by change 30 < 39; decide) rfl _ rfl (run_of_sem rfl (by rw [h.at_ 1 rfl (pre_of hp 1 rfl), h.at_ 2 rfl (pre_of hp 2 rfl)]; exact ix_kid rfl hlt))
        case o4 =>
          intro f a u h hfi hp hq
          have hyu : Ext wr u := ((Ext.refl wr).drew).trans h.ext
          exact h.yieldG rfl (wanted_none rfl) 31 rfl (by change 31 < 39; decide) rfl _ rfl (run_of_sem rfl (by rw [h.at_ 3 rfl (pre_of hp 3 rfl), HCS.out]; exact ld_kid HQL.out (fun j v hj => hyu.cell (R0.out j v hj))))
        case o5 =>
          intro f a u h hfi hp hq
          exact h.yieldG rfl (wanted_none rfl) 32 rfl (by change 32 < 39; decide) rfl _ rfl (run_of_sem rfl (by rw [(show a.eval (.tmp 3) = .pointer (some ⟨g + 1, 0, none⟩) from h.agree.eval (by decide))]; exact f_tree1 _ _))
        case o6 =>
          intro f a u h hfi hp hq
          have hyu : Ext wr u := ((Ext.refl wr).drew).trans h.ext
          exact h.yieldG rfl (wanted_none rfl) 33 rfl (by change 33 < 39; decide) rfl _ rfl (run_of_sem rfl (by rw [h.at_ 5 rfl (pre_of hp 5 rfl)]; exact ld_kids (tree_cells (Hbb.out.ext (hx.trans hyu))).2))
        case o7 =>
          intro f a u h hfi hp hq
          have q5 : a.tmps[5]?.getD undef = .int .i64 (k : Int) := h.agree.att (by decide)
          exact h.yieldG rfl (wanted_none rfl) 34 rfl (by change 34 < 39; decide) rfl _ rfl (by go_simp)
        case o8 =>
          intro f a u h hfi hp hq
          exact h.yieldG rfl (wanted_none rfl) 35 rfl (by change 35 < 39; decide) rfl _ rfl (run_of_sem rfl (by rw [h.at_ 6 rfl (pre_of hp 6 rfl), h.at_ 7 rfl (pre_of hp 7 rfl)]; exact ix_kid rfl hlt))
        case o9 =>
          intro f a u h hfi hp hq
          have hyu : Ext wr u := ((Ext.refl wr).drew).trans h.ext
          exact h.yieldG rfl (wanted_none rfl) 36 rfl (by change 36 < 39; decide) rfl _ rfl (run_of_sem rfl (by rw [h.at_ 8 rfl (pre_of hp 8 rfl), HCS.out]; exact ld_kid HQL.out (fun j v hj => hyu.cell (S0.out j v hj))))
        case o10 =>
          intro f a u h hfi hp hq
          have q31 := h.att 4 rfl (pre_of hp 4 rfl)
          have q36 := h.att 9 rfl (pre_of hp 9 rfl)
          have z := z u
          exact h.yieldG rfl (wanted_none rfl) 37 rfl (by change 37 < 39; decide) rfl _ rfl (by go_simp)
      · intro f a u h hall hfar
        have e37 := h.at_ 10 rfl (hall 10 (by decide))
        have hyu : Ext wr u := ((Ext.refl wr).drew).trans h.ext
        have hag := h.agree.out
        simp only [List.foldl_cons, List.foldl_nil, Act.put, List.setIfInBounds_toArray, List.set_cons_zero, List.set_cons_succ] at hag
        rw [e37] at hag
        clear e37
        generalize a.eval (.tmp 27) = y27 at hag
        generalize a.eval (.tmp 28) = y28 at hag
        generalize a.eval (.tmp 29) = y29 at hag
        generalize a.eval (.tmp 30) = y30 at hag
        generalize a.eval (.tmp 31) = y31 at hag
        generalize a.eval (.tmp 32) = y32 at hag
        generalize a.eval (.tmp 33) = y33 at hag
        generalize a.eval (.tmp 34) = y34 at hag
        generalize a.eval (.tmp 35) = y35 at hag
        generalize a.eval (.tmp 36) = y36 at hag
        clear h hall z
        subst hag
        go_wp2
        go_roundw
        case rel => exact ⟨k + 1, by omega, by go_num, hx.trans hyu⟩
        case measure => simp [intOf]; omega
    · obtain rfl : k = K := by omega
      go_wp2
      go_ret
      exact ⟨rfl, hx0.trans hx⟩
end Go.Proofs.Ythepbcomeimcnaa
