/- The walk of the reference's SameCommit, of two copies of one commit. -/
import Derived.Test.YthepbcomeimcnaaObjSameT
namespace Go.Proofs.Ythepbcomeimcnaa
open Go.RowKit
set_option linter.unusedVariables false

set_option maxRecDepth 100000 in
set_option maxHeartbeats 8000000 in
theorem sameCommit_calls (c : Cm) (qa qb : Option Addr) (Q qc qd : Nat) (w : World) (h : CmAt w c qa Q qc) (h' : CmAt w c qb Q qd) :
    Calls Try.prog 14 #[cma c qa Q qc, cma c qb Q qd] w fun e w' => e = .returned (.bool true) ∧ Ext w w' := by
  have Hh := Lib.hid h
  have Hk := Lib.hid h'
  have HR := Lib.hid h.hr
  have hbq := h.bq
  have hsn := h.sn
  clear h h'
  go_enter Try.func14, Try.ntmps14
  obtain ⟨w0, hw0⟩ : ∃ w0, w0 = (w.alloc (.cells (cmC c qa Q qc).toArray 31)).alloc (.cells (cmC c qb Q qd).toArray 31) := ⟨_, rfl⟩
  have hx0 : Ext w w0 := by rw [hw0]; exact ((Ext.refl _).alloc _).alloc _
  have Hba := Lib.hid (show Blk w0 w.heap.size 31 (cmC c qa Q qc).toArray from by rw [hw0]; exact (Blk.new w _ _).ext ((Ext.refl _).alloc _))
  have Hbb := Lib.hid (show Blk w0 (w.heap.size + 1) 31 (cmC c qb Q qd).toArray from by rw [hw0]; have e := Blk.new (w.alloc (.cells (cmC c qa Q qc).toArray 31)) 31 (cmC c qb Q qd).toArray; simpa using e)
  go_upto_region 1 with (fail)
  rw [← hw0]
  clear hw0
  obtain ⟨g, hg⟩ : ∃ g, g = w.heap.size := ⟨_, rfl⟩
  rw [← hg] at Hba Hbb ⊢
  clear hg
  obtain ⟨c0, c1, c2, c3⟩ := cm_cells Hba.out HR.out
  obtain ⟨d0, d1, d2, d3⟩ := cm_cells Hbb.out HR.out
  have z := fun w' => id_equal c.root c.root HR.out HR.out w'
  simp only [beq_self_eq_true] at z
  have r0 : ∀ (j : Nat) (v : Value), (bv c.root)[j]? = some v → w0.cell? ((⟨g, 0, none⟩ : Addr).add j) = some v := fun j v hv => by obtain ⟨b, hb, hc⟩ := c0 j v hv; cases hb; exact hc
  have s0 : ∀ (j : Nat) (v : Value), (bv c.root)[j]? = some v → w0.cell? ((⟨g + 1, 0, none⟩ : Addr).add j) = some v := fun j v hv => by obtain ⟨b, hb, hc⟩ := d0 j v hv; cases hb; exact hc
  have R0 := Lib.hid r0
  have S0 := Lib.hid s0
  clear c0 d0 r0 s0
  go_wp2_with (first
    | (refine wpList_load_row_ rfl 28 (.tmp 6) rfl ⟨g, 0, none⟩ rfl (bv c.root) _ R0.out Try.underlying28 rfl (by rw [id_info, bv_len, HR.out]) ?_)
    | (refine wpList_load_row_ rfl 28 (.tmp 8) rfl ⟨g + 1, 0, none⟩ rfl (bv c.root) _ S0.out Try.underlying28 rfl (by rw [id_info, bv_len, HR.out]) ?_))
  clear c1 c2 c3 d1 d2 d3 z
  go_loopw [37, 5] (fun i v wr => ∃ (k : Nat), k ≤ Q ∧ i = .int .i64 k ∧ Ext w0 wr) (fun i _ _ => Q - (intOf i).toNat)
  case atStart => exact ⟨0, Nat.zero_le _, rfl, Ext.refl _⟩
  case round =>
    obtain ⟨k, hk, rfl, hx⟩ := hrel
    by_cases hlt : k < Q
    · have hkl : k < c.parents.length := by rw [Hh.out.hq]; exact hlt
      obtain ⟨x, rfl, r0, _⟩ := id_row (Hh.out.cq.ext (hx0.trans hx)) hkl
      obtain ⟨y, rfl, s0, _⟩ := id_row (Hk.out.cq.ext (hx0.trans hx)) hkl
      have hql : (c.parents[k]).length = 33 := Hh.out.sq _ (List.getElem_mem hkl)
      generalize c.parents[k] = p at r0 s0 hql
      obtain ⟨cs, hcs⟩ : ∃ cs, cs = (bv p).toArray := ⟨_, rfl⟩
      have z := fun u => id_equal p p hql hql u
      simp only [← hcs, beq_self_eq_true] at z
      have HCS := Lib.hid hcs
      have HQL := Lib.hid hql
      have R1 := Lib.hid r0
      have S1 := Lib.hid s0
      clear hcs hql r0 s0
      go_upto_region 6 with (fail)
      refine wp_region_ops (FInv [40, 41, 42, 43, 44, 45, 46, 47, 48, 49, 50] _ wr.drew [⟨0, none, 40, .val (.pointer (some ⟨g, 33, none⟩))⟩, ⟨1, none, 41, .val (.slice (some x) Q qc)⟩, ⟨2, none, 42, .val (.int .i64 (k : Int))⟩, ⟨3, none, 43, .val (.pointer (some (x.add (k * 33))))⟩, ⟨4, none, 44, .val (.agg cs)⟩, ⟨5, none, 45, .val (.pointer (some ⟨g + 1, 33, none⟩))⟩, ⟨6, none, 46, .val (.slice (some y) Q qd)⟩, ⟨7, none, 47, .val (.int .i64 (k : Int))⟩, ⟨8, none, 48, .val (.pointer (some (y.add (k * 33))))⟩, ⟨9, none, 49, .val (.agg cs)⟩, ⟨10, none, 50, .val (.bool false)⟩]) (by kernel_rfl) (by kernel_rfl) FInv.start ?_ ?_
      · refine ⟨?o0, ?o1, ?o2, ?o3, ?o4, ?o5, ?o6, ?o7, ?o8, ?o9, ?o10, trivial⟩
        case o0 =>
          intro f a u h hfi hp hq
          exact h.yieldG rfl (wanted_none rfl) 40 rfl (by change 40 < 52; decide) rfl _ rfl (run_of_sem rfl (by rw [(show a.eval (.tmp 2) = .pointer (some ⟨g, 0, none⟩) from h.agree.eval (by decide))]; exact f_cm1 _ _))
        case o1 =>
          intro f a u h hfi hp hq
          have hyu : Ext wr u := ((Ext.refl wr).drew).trans h.ext
          exact h.yieldG rfl (wanted_none rfl) 41 rfl (by change 41 < 52; decide) rfl _ rfl (run_of_sem rfl (by rw [h.at_ 0 rfl (pre_of hp 0 rfl)]; exact ld_ids (cm_cells (Hba.out.ext (hx.trans hyu)) HR.out).2.1))
        case o2 =>
          intro f a u h hfi hp hq
          have q5 : a.tmps[5]?.getD undef = .int .i64 (k : Int) := h.agree.att (by decide)
          exact h.yieldG rfl (wanted_none rfl) 42 rfl (by change 42 < 52; decide) rfl _ rfl (by go_simp)
        case o3 =>
          intro f a u h hfi hp hq
          exact h.yieldG rfl (wanted_none rfl) 43 rfl (by change 43 < 52; decide) rfl _ rfl (run_of_sem rfl (by rw [h.at_ 1 rfl (pre_of hp 1 rfl), h.at_ 2 rfl (pre_of hp 2 rfl)]; exact ix_id rfl hlt))
        case o4 =>
          intro f a u h hfi hp hq
          have hyu : Ext wr u := ((Ext.refl wr).drew).trans h.ext
          exact h.yieldG rfl (wanted_none rfl) 44 rfl (by change 44 < 52; decide) rfl _ rfl (run_of_sem rfl (by rw [h.at_ 3 rfl (pre_of hp 3 rfl), HCS.out]; exact ld_id HQL.out (R1.out.ext hyu)))
        case o5 =>
          intro f a u h hfi hp hq
          exact h.yieldG rfl (wanted_none rfl) 45 rfl (by change 45 < 52; decide) rfl _ rfl (run_of_sem rfl (by rw [(show a.eval (.tmp 3) = .pointer (some ⟨g + 1, 0, none⟩) from h.agree.eval (by decide))]; exact f_cm1 _ _))
        case o6 =>
          intro f a u h hfi hp hq
          have hyu : Ext wr u := ((Ext.refl wr).drew).trans h.ext
          exact h.yieldG rfl (wanted_none rfl) 46 rfl (by change 46 < 52; decide) rfl _ rfl (run_of_sem rfl (by rw [h.at_ 5 rfl (pre_of hp 5 rfl)]; exact ld_ids (cm_cells (Hbb.out.ext (hx.trans hyu)) HR.out).2.1))
        case o7 =>
          intro f a u h hfi hp hq
          have q5 : a.tmps[5]?.getD undef = .int .i64 (k : Int) := h.agree.att (by decide)
          exact h.yieldG rfl (wanted_none rfl) 47 rfl (by change 47 < 52; decide) rfl _ rfl (by go_simp)
        case o8 =>
          intro f a u h hfi hp hq
          exact h.yieldG rfl (wanted_none rfl) 48 rfl (by change 48 < 52; decide) rfl _ rfl (run_of_sem rfl (by rw [h.at_ 6 rfl (pre_of hp 6 rfl), h.at_ 7 rfl (pre_of hp 7 rfl)]; exact ix_id rfl hlt))
        case o9 =>
          intro f a u h hfi hp hq
          have hyu : Ext wr u := ((Ext.refl wr).drew).trans h.ext
          exact h.yieldG rfl (wanted_none rfl) 49 rfl (by change 49 < 52; decide) rfl _ rfl (run_of_sem rfl (by rw [h.at_ 8 rfl (pre_of hp 8 rfl), HCS.out]; exact ld_id HQL.out (S1.out.ext hyu)))
        case o10 =>
          intro f a u h hfi hp hq
          have q44 := h.att 4 rfl (pre_of hp 4 rfl)
          have q49 := h.att 9 rfl (pre_of hp 9 rfl)
          have z := z u
          exact h.yieldG rfl (wanted_none rfl) 50 rfl (by change 50 < 52; decide) rfl _ rfl (by go_simp)
      · intro f a u h hall hfar
        have e50 := h.at_ 10 rfl (hall 10 (by decide))
        have hyu : Ext wr u := ((Ext.refl wr).drew).trans h.ext
        have hag := h.agree.out
        simp only [List.foldl_cons, List.foldl_nil, Act.put, List.setIfInBounds_toArray, List.set_cons_zero, List.set_cons_succ] at hag
        rw [e50] at hag
        clear e50
        generalize a.eval (.tmp 40) = y40 at hag
        generalize a.eval (.tmp 41) = y41 at hag
        generalize a.eval (.tmp 42) = y42 at hag
        generalize a.eval (.tmp 43) = y43 at hag
        generalize a.eval (.tmp 44) = y44 at hag
        generalize a.eval (.tmp 45) = y45 at hag
        generalize a.eval (.tmp 46) = y46 at hag
        generalize a.eval (.tmp 47) = y47 at hag
        generalize a.eval (.tmp 48) = y48 at hag
        generalize a.eval (.tmp 49) = y49 at hag
        clear h hall z
        subst hag
        go_wp2
        go_roundw
        case rel => exact ⟨k + 1, by omega, by go_num, hx.trans hyu⟩
        case measure => simp [intOf]; omega
    · obtain rfl : k = Q := by omega
      go_wp2
      go_ret
      exact ⟨rfl, hx0.trans hx⟩
end Go.Proofs.Ythepbcomeimcnaa
