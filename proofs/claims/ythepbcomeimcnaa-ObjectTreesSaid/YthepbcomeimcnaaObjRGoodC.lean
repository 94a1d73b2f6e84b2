/- The walk of the reference's GoodCommit, layer 15. Printed by wip/mkobjrgoodc.py. -/
import Derived.Test.YthepbcomeimcnaaObjRGood
import Derived.Test.YthepbcomeimcnaaIdentLaw
namespace Go.Proofs.Ythepbcomeimcnaa
open Go.RowKit
set_option linter.unusedVariables false

theorem run_neq_id {o : Oper} {a : Act} {u : World} (s1 s2 : Nat) (c0 c1 : Array Value) (b : Bool) (ho : o.op = .binOp .neq 28 (.tmp s1) (.tmp s2) 28) (h1 : a.eval (.tmp s1) = .agg c0) (h2 : a.eval (.tmp s2) = .agg c1)
    (hz : (Op.equalIn 10000 28 (.agg c0) (.agg c1)).run Try.prog u = .ok b u) : (execOp a.eval o).run Try.prog u = .ok (.value (.bool (!b))) u := by
  have hg : Try.prog.eqGuardType Try.prog.depth 28 = false := by kernel_rfl
  unfold execOp
  simp [ho, h1, h2, eqGuard, hg, binOp, Op.equal, Op.maxDepth, hz]

set_option maxRecDepth 100000 in
set_option maxHeartbeats 8000000 in
theorem rgoodCommit_bad (c : Cm) (qa : Option Addr) (Q qc : Nat) (w : World) (h : CmAt w c qa Q qc) (hs : idGood c.root = false ∨ (idGood c.root = true ∧ ((2 : Int) < (Q : Int) ∨ (Q ≤ 2 ∧ ((32 : Int) < (c.note.size : Int) ∨ (c.note.size ≤ 32 ∧ (c.num < 1 ∨ (¬ c.num < 1 ∧ 1024 < c.num)))))))) :
    Calls Try.prog 21 #[cma c qa Q qc] w fun e w' => e = .returned (.bool false) ∧ Ext w w' := by
  have Hh := Lib.hid h
  have HR := Lib.hid h.hr
  have hsn := h.sn
  have hbq := h.bq
  clear h
  have HNR := Lib.hid (fun w' => rname_calls c.root w' HR.out)
  unfold idv at HNR
  go_enter Try.func21, Try.ntmps21
  obtain ⟨w0, hw0⟩ : ∃ w0, w0 = w.alloc (.cells (cmC c qa Q qc).toArray 31) := ⟨_, rfl⟩
  have hx0 : Ext w w0 := by rw [hw0]; exact (Ext.refl _).alloc _
  have Hbc := Lib.hid (show Blk w0 w.heap.size 31 (cmC c qa Q qc).toArray from by rw [hw0]; exact Blk.new w _ _)
  go_upto_region 1 with (fail)
  rw [← hw0]
  clear hw0
  obtain ⟨g, hg1⟩ : ∃ g, g = w.heap.size := ⟨_, rfl⟩
  rw [← hg1] at Hbc ⊢
  clear hg1
  have R0 := Lib.hid (show ∀ (j : Nat) (v : Value), (bv c.root)[j]? = some v → w0.cell? ((⟨g, 0, none⟩ : Addr).add j) = some v from fun j v hv => by obtain ⟨b, hb, hc⟩ := (cm_cells Hbc.out HR.out).1 j v hv; cases hb; exact hc)
  rcases hs with hgr | ⟨hgr, hs⟩
  · have ht := idText_none hgr
    have hemp : (bstr (idText c.root)).toList.isEmpty = true := by rw [ht, bstr_nil_list]; rfl
    have hnil : (bstr (idText c.root)).toList = [] := by rw [ht, bstr_nil_list]
    clear ht hgr
    go_wp2_with (first
      | (refine wpList_load_row_ rfl 28 (.tmp 5) rfl ⟨g, 0, none⟩ rfl (bv c.root) _ R0.out Try.underlying28 rfl (by rw [id_info, bv_len, HR.out]) ?_)
      | (go_at_call 30; (with_reducible refine (HNR.out _).mono ?_); rintro e w1 ⟨rfl, hx1⟩; obtain ⟨_, c1, c2, c3⟩ := cm_cells (Hbc.out.ext hx1) HR.out))
    go_ret
    exact ⟨rfl, hx0.trans hx1⟩
  · obtain ⟨b0, bl, ht⟩ := idText_some HR.out hgr
    have hemp : (bstr (idText c.root)).toList.isEmpty = false := by rw [ht]; exact isEmpty_bstr _ _
    have hnil : ¬ (bstr (idText c.root)).toList = [] := by rw [ht]; exact bstr_ne _ _
    have Hgr := Lib.hid hgr
    clear ht hgr
    rcases hs with h1 | ⟨h1, h2 | ⟨h2, h3 | ⟨h3, h4⟩⟩⟩
    · go_wp2_with (first
        | (refine wpList_load_row_ rfl 28 (.tmp 5) rfl ⟨g, 0, none⟩ rfl (bv c.root) _ R0.out Try.underlying28 rfl (by rw [id_info, bv_len, HR.out]) ?_)
        | (go_at_call 30; (with_reducible refine (HNR.out _).mono ?_); rintro e w1 ⟨rfl, hx1⟩; obtain ⟨_, c1, c2, c3⟩ := cm_cells (Hbc.out.ext hx1) HR.out))
      go_ret
      exact ⟨rfl, hx0.trans hx1⟩
    · have h1' : ¬ (2 : Int) < (Q : Int) := by omega
      go_wp2_with (first
        | (refine wpList_load_row_ rfl 28 (.tmp 5) rfl ⟨g, 0, none⟩ rfl (bv c.root) _ R0.out Try.underlying28 rfl (by rw [id_info, bv_len, HR.out]) ?_)
        | (go_at_call 30; (with_reducible refine (HNR.out _).mono ?_); rintro e w1 ⟨rfl, hx1⟩; obtain ⟨_, c1, c2, c3⟩ := cm_cells (Hbc.out.ext hx1) HR.out))
      go_ret
      exact ⟨rfl, hx0.trans hx1⟩
    · have h1' : ¬ (2 : Int) < (Q : Int) := by omega
      have h2' : ¬ (32 : Int) < (c.note.size : Int) := by omega
      go_wp2_with (first
        | (refine wpList_load_row_ rfl 28 (.tmp 5) rfl ⟨g, 0, none⟩ rfl (bv c.root) _ R0.out Try.underlying28 rfl (by rw [id_info, bv_len, HR.out]) ?_)
        | (go_at_call 30; (with_reducible refine (HNR.out _).mono ?_); rintro e w1 ⟨rfl, hx1⟩; obtain ⟨_, c1, c2, c3⟩ := cm_cells (Hbc.out.ext hx1) HR.out))
      go_ret
      exact ⟨rfl, hx0.trans hx1⟩
    · have h1' : ¬ (2 : Int) < (Q : Int) := by omega
      have h2' : ¬ (32 : Int) < (c.note.size : Int) := by omega
      go_wp2_with (first
        | (refine wpList_load_row_ rfl 28 (.tmp 5) rfl ⟨g, 0, none⟩ rfl (bv c.root) _ R0.out Try.underlying28 rfl (by rw [id_info, bv_len, HR.out]) ?_)
        | (go_at_call 30; (with_reducible refine (HNR.out _).mono ?_); rintro e w1 ⟨rfl, hx1⟩; obtain ⟨_, c1, c2, c3⟩ := cm_cells (Hbc.out.ext hx1) HR.out))
      go_ret
      exact ⟨rfl, hx0.trans hx1⟩
set_option maxRecDepth 100000 in
set_option maxHeartbeats 16000000 in
theorem rgoodCommit_ok (c : Cm) (qa : Option Addr) (Q qc : Nat) (w : World) (h : CmAt w c qa Q qc) (hgr : idGood c.root = true) (hQ2 : Q ≤ 2) (hn32 : c.note.size ≤ 32) (hm1 : ¬ c.num < 1) (hm2 : ¬ 1024 < c.num) :
    Calls Try.prog 21 #[cma c qa Q qc] w fun e w' => e = .returned (.bool ((List.range c.parents.length).all (paOk c))) ∧ Ext w w' := by
  obtain ⟨RES, hRES⟩ : ∃ RES, RES = (List.range c.parents.length).all (paOk c) := ⟨_, rfl⟩
  rw [← hRES]
  have HRES := Lib.hid hRES
  clear hRES
  have Hh := Lib.hid h
  have HR := Lib.hid h.hr
  have hsn := h.sn
  have hbq := h.bq
  clear h
  have HNR := Lib.hid (fun w' => rname_calls c.root w' HR.out)
  unfold idv at HNR
  go_enter Try.func21, Try.ntmps21
  obtain ⟨w0, hw0⟩ : ∃ w0, w0 = w.alloc (.cells (cmC c qa Q qc).toArray 31) := ⟨_, rfl⟩
  have hx0 : Ext w w0 := by rw [hw0]; exact (Ext.refl _).alloc _
  have Hbc := Lib.hid (show Blk w0 w.heap.size 31 (cmC c qa Q qc).toArray from by rw [hw0]; exact Blk.new w _ _)
  go_upto_region 1 with (fail)
  rw [← hw0]
  clear hw0
  obtain ⟨g, hg1⟩ : ∃ g, g = w.heap.size := ⟨_, rfl⟩
  rw [← hg1] at Hbc ⊢
  clear hg1
  have R0 := Lib.hid (show ∀ (j : Nat) (v : Value), (bv c.root)[j]? = some v → w0.cell? ((⟨g, 0, none⟩ : Addr).add j) = some v from fun j v hv => by obtain ⟨b, hb, hc⟩ := (cm_cells Hbc.out HR.out).1 j v hv; cases hb; exact hc)
  obtain ⟨b0, bl, ht⟩ := idText_some HR.out hgr
  have hemp : (bstr (idText c.root)).toList.isEmpty = false := by rw [ht]; exact isEmpty_bstr _ _
  have hnil : ¬ (bstr (idText c.root)).toList = [] := by rw [ht]; exact bstr_ne _ _
  have Hgr := Lib.hid hgr
  clear ht hgr
  have h1' : ¬ (2 : Int) < (Q : Int) := by omega
  have h2' : ¬ (32 : Int) < (c.note.size : Int) := by omega
  go_upto_region 4 with (first
  | (refine wpList_load_row_ rfl 28 (.tmp 5) rfl ⟨g, 0, none⟩ rfl (bv c.root) _ R0.out Try.underlying28 rfl (by rw [id_info, bv_len, HR.out]) ?_)
  | (go_at_call 30; (with_reducible refine (HNR.out _).mono ?_); rintro e w1 ⟨rfl, hx1⟩; obtain ⟨_, c1, c2, c3⟩ := cm_cells (Hbc.out.ext hx1) HR.out))
  clear c1 c2 c3 hemp hnil h1' h2' hm1 hm2
  obtain ⟨w1', hw1'⟩ : ∃ w1', w1' = w1 := ⟨_, rfl⟩
  go_loopw [34] (fun i wr => ∃ k : Nat, k ≤ Q ∧ i = .int .i64 k ∧ Aside (∀ i < k, idGood (c.parents.getD i []) = true ∧ idKind (c.parents.getD i []) = idKind c.root) ∧ Ext w0 wr) (fun i _ => Q - (intOf i).toNat)
  case atStart => exact ⟨0, Nat.zero_le _, rfl, fun i hi => absurd hi (Nat.not_lt_zero _), hx1⟩
  case round =>
    obtain ⟨k, hk, rfl, hA, hx⟩ := hrel
    have hxw : Ext w wr := hx0.trans hx
    by_cases hlt : k < Q
    · have hkl : k < c.parents.length := by rw [Hh.out.hq]; exact hlt
      obtain ⟨x, rfl, _, hlc⟩ := id_row (Hh.out.cq.ext hxw) hkl
      have hpl : (c.parents[k]).length = 33 := Hh.out.sq _ (List.getElem_mem hkl)
      have hpa := paAt_get hkl
      have hno : paOk c k = false → RES = false := fun hf => by rw [HRES.out, range_bad hkl hf]
      have hpk : paOk c k = (idGood c.parents[k] && (idKind c.parents[k] == idKind c.root && (k == 0 || !(c.parents.getD (k - 1) [] == c.parents[k])))) := by unfold paOk; rw [hpa]
      obtain ⟨p, hp⟩ : ∃ p, p = c.parents[k] := ⟨_, rfl⟩
      rw [← hp] at hlc hpl hpa hpk
      have HPA := Lib.hid hpa
      have HPK := Lib.hid hpk
      have HNO := Lib.hid hno
      have HPL := Lib.hid hpl
      have HNP := Lib.hid (fun w' => rname_calls p w' hpl)
      unfold idv at HNP
      clear hp hpl hpa hpk hno
      go_upto_region 6 with (first
        | (refine wpList_load_row_ rfl 28 (.tmp 36) rfl (x.add (k * 33)) rfl (bv p) _ hlc Try.underlying28 rfl (by rw [id_info, bv_len, HPL.out]) ?_)
        | (refine wpList_store_blk rfl 28 (.tmp 4) (.tmp 37) rfl rfl wr.heap.size (bv p).toArray rfl rfl _ _ (Blk.new wr _ _) (by rw [List.size_toArray, bv_len, HPL.out]; rfl) (by kernel_rfl) (bv_cells p) ?_; intro w3 hb3 hg3; have hx3 : Ext wr w3 := ((Ext.refl _).alloc _).grown_ hg3 (by simp)))
      clear hlc hg3
      obtain ⟨gq, hgq⟩ : ∃ gq, gq = wr.heap.size := ⟨_, rfl⟩
      rw [← hgq] at hb3 ⊢
      have HB3 := Lib.hid hb3
      clear hgq hb3
      have HHD := Lib.hid (fun (u : World) (hu : Ext w3 u) => (show u.cell? ⟨gq, 0, none⟩ = some (.int .u8 (idKind p).toNat) from by
        have hc := (HB3.out.ext hu).cells
        rw [List.toList_toArray] at hc
        exact Cells.head hc (by rw [HPL.out]; decide)))
      have HHR := Lib.hid (fun (u : World) (hu : Ext w3 u) => (show u.cell? ⟨g, 0, none⟩ = some (.int .u8 (idKind c.root).toNat) from Cells.head (cm_cells (Hbc.out.ext (hx.trans (hx3.trans hu))) HR.out).1 (by rw [HR.out]; decide)))
      cases hgd : idGood p with
      | false =>
        rw [hgd] at HPK
        have ht := idText_none hgd
        have hemp : (bstr (idText p)).toList.isEmpty = true := by rw [ht, bstr_nil_list]; rfl
        have hnil : (bstr (idText p)).toList = [] := by rw [ht, bstr_nil_list]
        have HF := Lib.hid (HNO.out (HPK.out.trans (by rw [Bool.false_and])))
        clear ht hgd
        go_wp2_with (first
          | (refine wpList_load_blk rfl 28 (.tmp 4) rfl gq rfl _ _ _ HB3.out Try.underlying28 rfl (by rw [List.size_toArray, bv_len, HPL.out]; kernel_rfl) ?_)
          | (go_at_call 30; (with_reducible refine (HNP.out _).mono ?_); rintro e w4 ⟨rfl, hx4⟩))
        go_ret
        exact ⟨ret_bool HF.out.symm, hxw.trans (hx3.trans hx4)⟩
      | true =>
        rw [hgd, Bool.true_and] at HPK
        obtain ⟨b0, bl, ht⟩ := idText_some HPL.out hgd
        have hemp : (bstr (idText p)).toList.isEmpty = false := by rw [ht]; exact isEmpty_bstr _ _
        have hnil : ¬ (bstr (idText p)).toList = [] := by rw [ht]; exact bstr_ne _ _
        have Hgd := Lib.hid hgd
        clear ht hgd
        cases hkd : (idKind p == idKind c.root) with
        | false =>
          rw [hkd] at HPK
          have hne : (((idKind p).toNat : Int) != ((idKind c.root).toNat : Int)) = true := bne_iff_ne.2 (fun e => beq_eq_false_iff_ne.1 hkd (UInt8.toNat_inj.1 (by omega)))
          have hne2 : ¬ ((idKind p).toNat : Int) = ((idKind c.root).toNat : Int) := bne_iff_ne.1 hne
          have HF := Lib.hid (HNO.out (HPK.out.trans (by rw [Bool.false_and])))
          clear hkd
          go_wp2_with (first
            | (refine wpList_load_blk rfl 28 (.tmp 4) rfl gq rfl _ _ _ HB3.out Try.underlying28 rfl (by rw [List.size_toArray, bv_len, HPL.out]; kernel_rfl) ?_)
            | (go_at_call 30; (with_reducible refine (HNP.out _).mono ?_); rintro e w4 ⟨rfl, hx4⟩; have k1 := HHD.out w4 hx4; have k2 := HHR.out w4 hx4))
          go_ret
          exact ⟨ret_bool HF.out.symm, hxw.trans (hx3.trans hx4)⟩
        | true =>
          have hkd' := beq_iff_eq.1 hkd
          have HKK := Lib.hid hkd'
          rw [hkd'] at HHD
          clear hkd hkd'
          go_wp2_with (first
            | (refine wpList_load_blk rfl 28 (.tmp 4) rfl gq rfl _ _ _ HB3.out Try.underlying28 rfl (by rw [List.size_toArray, bv_len, HPL.out]; kernel_rfl) ?_)
            | (go_at_call 30; (with_reducible refine (HNP.out _).mono ?_); rintro e w4 ⟨rfl, hx4⟩; have k1 := HHD.out w4 hx4; have k2 := HHR.out w4 hx4))
          go_roundw
          case rel => exact ⟨k + 1, by omega, by go_num, fun i hi => by
            by_cases e : i = k
            · subst e; exact ⟨by rw [HPA.out]; exact Hgd.out, by rw [HPA.out]; exact HKK.out⟩
            · exact hA.out i (by omega), hx.trans (hx3.trans hx4)⟩
          case measure => simp [intOf]; omega
    · obtain rfl : k = Q := by omega
      have hall : ∀ i < c.parents.length, paOk c i = (i == 0 || !(c.parents.getD (i - 1) [] == c.parents.getD i [])) := fun i hi => by
        obtain ⟨a1, a2⟩ := hA.out i (by rw [← Hh.out.hq]; exact hi)
        unfold paOk
        rw [a1, a2, beq_self_eq_true]
        rfl
      clear hA hlt
      go_upto_region 9 with (fail)
      by_cases hk2 : k < 2
      · have HT : Hid (RES = true) := Lib.hid (by
          rw [HRES.out, List.all_eq_true]
          intro i hi
          rw [List.mem_range] at hi
          rw [hall i hi, show i = 0 by rw [Hh.out.hq] at hi; omega]
          rfl)
        have hq2 : ((k : Int) < 2) := by omega
        clear hall
        refine wp_region_ops (FInv [50, 51, 52, 53, 54, 55, 56, 57, 58, 59, 60, 61, 62, 63, 64, 2] _ wr.drew [⟨0, none, 50, .val (.pointer (some ⟨g, 33, none⟩))⟩, ⟨1, none, 51, .val (.slice qa k qc)⟩, ⟨2, none, 52, .val (.int .i64 (k : Nat))⟩, ⟨3, none, 53, .val (.bool true)⟩, ⟨4, none, 54, .val (.bool true)⟩, ⟨5, none, 55, .val undef⟩, ⟨6, none, 56, .val undef⟩, ⟨7, none, 57, .val undef⟩, ⟨8, none, 58, .val undef⟩, ⟨9, none, 59, .val undef⟩, ⟨10, none, 60, .val undef⟩, ⟨11, none, 61, .val undef⟩, ⟨12, none, 62, .val undef⟩, ⟨13, none, 63, .val undef⟩, ⟨14, none, 64, .val (.bool true)⟩, ⟨15, none, 2, .val (.bool true)⟩]) (by kernel_rfl) (by kernel_rfl) FInv.start ?_ ?_
        · refine ⟨?o0, ?o1, ?o2, ?o3, ?o4, ?o5, ?o6, ?o7, ?o8, ?o9, ?o10, ?o11, ?o12, ?o13, ?o14, ?o15, trivial⟩
          case o0 =>
            intro f a u h hfi hp hq
            exact h.yieldG rfl (wanted_none rfl) 50 rfl (by change 50 < 65; decide) rfl _ rfl (run_of_sem rfl (by rw [(show a.eval (.tmp 1) = .pointer (some ⟨g, 0, none⟩) from h.agree.eval (by decide))]; exact f_cm1 _ _))
          case o1 =>
            intro f a u h hfi hp hq
            have hyu : Ext wr u := ((Ext.refl wr).drew).trans h.ext
            exact h.yieldG rfl (wanted_none rfl) 51 rfl (by change 51 < 65; decide) rfl _ rfl (run_of_sem rfl (by rw [h.at_ 0 rfl (pre_of hp 0 rfl)]; exact ld_ids (cm_cells (Hbc.out.ext (hx.trans hyu)) HR.out).2.1))
          case o2 =>
            intro f a u h hfi hp hq
            have q51 := h.att 1 rfl (pre_of hp 1 rfl)
            exact h.yieldG rfl (wanted_none rfl) 52 rfl (by change 52 < 65; decide) rfl _ rfl (by go_simp)
          case o3 =>
            intro f a u h hfi hp hq
            have z := hq2
            have q52 := h.att 2 rfl (pre_of hp 2 rfl)
            exact h.yieldG rfl (wanted_none rfl) 53 rfl (by change 53 < 65; decide) rfl _ rfl (by go_simp)
          case o4 =>
            intro f a u h hfi hp hq
            have q53 := h.att 3 rfl (pre_of hp 3 rfl)
            exact h.yieldG rfl (wanted_none rfl) 54 rfl (by change 54 < 65; decide) rfl _ rfl (by go_simp)
          case o5 =>
            intro f a u h hfi hp hq
            exact h.skipG rfl (wanted_not (g := 4) (d' := 54) rfl rfl (h.at_ 4 rfl (pre_of hp 4 rfl)) rfl) 55 rfl (by change 55 < 65; decide) rfl rfl
          case o6 =>
            intro f a u h hfi hp hq
            exact h.skipG rfl (wanted_not (g := 4) (d' := 54) rfl rfl (h.at_ 4 rfl (pre_of hp 4 rfl)) rfl) 56 rfl (by change 56 < 65; decide) rfl rfl
          case o7 =>
            intro f a u h hfi hp hq
            exact h.skipG rfl (wanted_not (g := 4) (d' := 54) rfl rfl (h.at_ 4 rfl (pre_of hp 4 rfl)) rfl) 57 rfl (by change 57 < 65; decide) rfl rfl
          case o8 =>
            intro f a u h hfi hp hq
            exact h.skipG rfl (wanted_not (g := 4) (d' := 54) rfl rfl (h.at_ 4 rfl (pre_of hp 4 rfl)) rfl) 58 rfl (by change 58 < 65; decide) rfl rfl
          case o9 =>
            intro f a u h hfi hp hq
            exact h.skipG rfl (wanted_not (g := 4) (d' := 54) rfl rfl (h.at_ 4 rfl (pre_of hp 4 rfl)) rfl) 59 rfl (by change 59 < 65; decide) rfl rfl
          case o10 =>
            intro f a u h hfi hp hq
            exact h.skipG rfl (wanted_not (g := 4) (d' := 54) rfl rfl (h.at_ 4 rfl (pre_of hp 4 rfl)) rfl) 60 rfl (by change 60 < 65; decide) rfl rfl
          case o11 =>
            intro f a u h hfi hp hq
            exact h.skipG rfl (wanted_not (g := 4) (d' := 54) rfl rfl (h.at_ 4 rfl (pre_of hp 4 rfl)) rfl) 61 rfl (by change 61 < 65; decide) rfl rfl
          case o12 =>
            intro f a u h hfi hp hq
            exact h.skipG rfl (wanted_not (g := 4) (d' := 54) rfl rfl (h.at_ 4 rfl (pre_of hp 4 rfl)) rfl) 62 rfl (by change 62 < 65; decide) rfl rfl
          case o13 =>
            intro f a u h hfi hp hq
            exact h.skipG rfl (wanted_not (g := 4) (d' := 54) rfl rfl (h.at_ 4 rfl (pre_of hp 4 rfl)) rfl) 63 rfl (by change 63 < 65; decide) rfl rfl
          case o14 =>
            intro f a u h hfi hp hq
            have q54 := h.att 4 rfl (pre_of hp 4 rfl)
            have q63 := h.att 13 rfl (pre_of hp 13 rfl)
            exact h.yieldG rfl (wanted_none rfl) 64 rfl (by change 64 < 65; decide) rfl _ rfl (by go_simp)
          case o15 =>
            intro f a u h hfi hp hq
            have q64 := h.att 14 rfl (pre_of hp 14 rfl)
            exact h.yieldG rfl (wanted_none rfl) 2 rfl (by change 2 < 65; decide) rfl _ rfl (by go_simp)
        · intro f a u h hall hfar
          have hyu : Ext wr u := ((Ext.refl wr).drew).trans h.ext
          have e2 := h.at_ 15 rfl (hall 15 (by decide))
          have hag := h.agree.out
          simp only [List.foldl_cons, List.foldl_nil, Act.put, List.setIfInBounds_toArray, List.set_cons_zero, List.set_cons_succ, e2] at hag
          generalize a.eval (.tmp 50) = y50 at hag
          generalize a.eval (.tmp 51) = y51 at hag
          generalize a.eval (.tmp 52) = y52 at hag
          generalize a.eval (.tmp 53) = y53 at hag
          generalize a.eval (.tmp 54) = y54 at hag
          generalize a.eval (.tmp 55) = y55 at hag
          generalize a.eval (.tmp 56) = y56 at hag
          generalize a.eval (.tmp 57) = y57 at hag
          generalize a.eval (.tmp 58) = y58 at hag
          generalize a.eval (.tmp 59) = y59 at hag
          generalize a.eval (.tmp 60) = y60 at hag
          generalize a.eval (.tmp 61) = y61 at hag
          generalize a.eval (.tmp 62) = y62 at hag
          generalize a.eval (.tmp 63) = y63 at hag
          generalize a.eval (.tmp 64) = y64 at hag
          clear h hall hfar e2
          subst hag
          go_wp2
          go_ret
          exact ⟨ret_bool HT.out.symm, hxw.trans hyu⟩
      · obtain rfl : k = 2 := by omega
        have h0l : 0 < c.parents.length := by rw [Hh.out.hq]; decide
        have h1l : 1 < c.parents.length := by rw [Hh.out.hq]; decide
        obtain ⟨x, rfl, _, hl0⟩ := id_row (Hh.out.cq.ext hxw) h0l
        obtain ⟨x', hx', _, hl1⟩ := id_row (Hh.out.cq.ext hxw) h1l
        cases hx'
        have e0 := paAt_get h0l
        have e1 := paAt_get h1l
        have hp0 : (c.parents[0]).length = 33 := Hh.out.sq _ (List.getElem_mem h0l)
        have hp1 : (c.parents[1]).length = 33 := Hh.out.sq _ (List.getElem_mem h1l)
        have hres : RES = !(c.parents[0] == c.parents[1]) := by
          rw [HRES.out, Hh.out.hq]
          show ((paOk c 0) && ((paOk c 1) && true)) = _
          rw [hall 0 h0l, hall 1 h1l, Bool.and_true]
          show (true && (false || !(c.parents.getD 0 [] == c.parents.getD 1 []))) = _
          rw [e0, e1]
          rfl
        generalize c.parents[0] = p0 at hl0 hp0 hres
        generalize c.parents[1] = p1 at hl1 hp1 hres
        obtain ⟨cs0, hcs0⟩ : ∃ cs, cs = (bv p0).toArray := ⟨_, rfl⟩
        obtain ⟨cs1, hcs1⟩ : ∃ cs, cs = (bv p1).toArray := ⟨_, rfl⟩
        have HL0 := Lib.hid (fun (u : World) (hu : Ext wr u) => (show (Instr.loadAt 28 (.pointer (some (x.add (0 * 33))))).run Try.prog u = .ok (.agg cs0) u from by rw [hcs0]; exact ld_id hp0 (fun j v hv => ⟨_, rfl, hu.cell (hl0 j v hv)⟩)))
        have HL1 := Lib.hid (fun (u : World) (hu : Ext wr u) => (show (Instr.loadAt 28 (.pointer (some (x.add (1 * 33))))).run Try.prog u = .ok (.agg cs1) u from by rw [hcs1]; exact ld_id hp1 (fun j v hv => ⟨_, rfl, hu.cell (hl1 j v hv)⟩)))
        have hz := fun u => id_equal p0 p1 hp0 hp1 u
        simp only [← hcs0, ← hcs1] at hz
        have HZ := Lib.hid hz
        have HRR := Lib.hid hres
        clear hl0 hl1 e0 e1 hall hz hres hcs0 hcs1 hk2
        cases hb : (p0 == p1) with
        | true =>
          rw [hb] at HZ HRR
          clear hb
          refine wp_region_ops (FInv [50, 51, 52, 53, 54, 55, 56, 57, 58, 59, 60, 61, 62, 63, 64, 2] _ wr.drew [⟨0, none, 50, .val (.pointer (some ⟨g, 33, none⟩))⟩, ⟨1, none, 51, .val (.slice (some x) 2 qc)⟩, ⟨2, none, 52, .val (.int .i64 (2 : Nat))⟩, ⟨3, none, 53, .val (.bool false)⟩, ⟨4, none, 54, .val (.bool false)⟩, ⟨5, none, 55, .val (.pointer (some ⟨g, 33, none⟩))⟩, ⟨6, none, 56, .val (.slice (some x) 2 qc)⟩, ⟨7, none, 57, .val (.pointer (some (x.add (0 * 33))))⟩, ⟨8, none, 58, .val (.agg cs0)⟩, ⟨9, none, 59, .val (.pointer (some ⟨g, 33, none⟩))⟩, ⟨10, none, 60, .val (.slice (some x) 2 qc)⟩, ⟨11, none, 61, .val (.pointer (some (x.add (1 * 33))))⟩, ⟨12, none, 62, .val (.agg cs1)⟩, ⟨13, none, 63, .val (.bool false)⟩, ⟨14, none, 64, .val (.bool false)⟩, ⟨15, none, 2, .val (.bool false)⟩]) (by kernel_rfl) (by kernel_rfl) FInv.start ?_ ?_
          · refine ⟨?o0, ?o1, ?o2, ?o3, ?o4, ?o5, ?o6, ?o7, ?o8, ?o9, ?o10, ?o11, ?o12, ?o13, ?o14, ?o15, trivial⟩
            case o0 =>
              intro f a u h hfi hp hq
              exact h.yieldG rfl (wanted_none rfl) 50 rfl (by change 50 < 65; decide) rfl _ rfl (run_of_sem rfl (by rw [(show a.eval (.tmp 1) = .pointer (some ⟨g, 0, none⟩) from h.agree.eval (by decide))]; exact f_cm1 _ _))
            case o1 =>
              intro f a u h hfi hp hq
              have hyu : Ext wr u := ((Ext.refl wr).drew).trans h.ext
              exact h.yieldG rfl (wanted_none rfl) 51 rfl (by change 51 < 65; decide) rfl _ rfl (run_of_sem rfl (by rw [h.at_ 0 rfl (pre_of hp 0 rfl)]; exact ld_ids (cm_cells (Hbc.out.ext (hx.trans hyu)) HR.out).2.1))
            case o2 =>
              intro f a u h hfi hp hq
              have q51 := h.att 1 rfl (pre_of hp 1 rfl)
              exact h.yieldG rfl (wanted_none rfl) 52 rfl (by change 52 < 65; decide) rfl _ rfl (by go_simp)
            case o3 =>
              intro f a u h hfi hp hq
              have q52 := h.att 2 rfl (pre_of hp 2 rfl)
              exact h.yieldG rfl (wanted_none rfl) 53 rfl (by change 53 < 65; decide) rfl _ rfl (by go_simp)
            case o4 =>
              intro f a u h hfi hp hq
              have q53 := h.att 3 rfl (pre_of hp 3 rfl)
              exact h.yieldG rfl (wanted_none rfl) 54 rfl (by change 54 < 65; decide) rfl _ rfl (by go_simp)
            case o5 =>
              intro f a u h hfi hp hq
              exact h.yieldG rfl (wanted_yes (g := 4) (d' := 54) rfl rfl (h.at_ 4 rfl (pre_of hp 4 rfl))) 55 rfl (by change 55 < 65; decide) rfl _ rfl (run_of_sem rfl (by rw [(show a.eval (.tmp 1) = .pointer (some ⟨g, 0, none⟩) from h.agree.eval (by decide))]; exact f_cm1 _ _))
            case o6 =>
              intro f a u h hfi hp hq
              have hyu : Ext wr u := ((Ext.refl wr).drew).trans h.ext
              exact h.yieldG rfl (wanted_yes (g := 4) (d' := 54) rfl rfl (h.at_ 4 rfl (pre_of hp 4 rfl))) 56 rfl (by change 56 < 65; decide) rfl _ rfl (run_of_sem rfl (by rw [h.at_ 5 rfl (pre_of hp 5 rfl)]; exact ld_ids (cm_cells (Hbc.out.ext (hx.trans hyu)) HR.out).2.1))
            case o7 =>
              intro f a u h hfi hp hq
              exact h.yieldG rfl (wanted_yes (g := 4) (d' := 54) rfl rfl (h.at_ 4 rfl (pre_of hp 4 rfl))) 57 rfl (by change 57 < 65; decide) rfl _ rfl (run_of_sem rfl (by rw [h.at_ 6 rfl (pre_of hp 6 rfl)]; exact ix_id (by rfl) (by decide)))
            case o8 =>
              intro f a u h hfi hp hq
              have hyu : Ext wr u := ((Ext.refl wr).drew).trans h.ext
              exact h.yieldG rfl (wanted_yes (g := 4) (d' := 54) rfl rfl (h.at_ 4 rfl (pre_of hp 4 rfl))) 58 rfl (by change 58 < 65; decide) rfl _ rfl (run_of_sem rfl (by rw [h.at_ 7 rfl (pre_of hp 7 rfl)]; exact HL0.out u hyu))
            case o9 =>
              intro f a u h hfi hp hq
              exact h.yieldG rfl (wanted_yes (g := 4) (d' := 54) rfl rfl (h.at_ 4 rfl (pre_of hp 4 rfl))) 59 rfl (by change 59 < 65; decide) rfl _ rfl (run_of_sem rfl (by rw [(show a.eval (.tmp 1) = .pointer (some ⟨g, 0, none⟩) from h.agree.eval (by decide))]; exact f_cm1 _ _))
            case o10 =>
              intro f a u h hfi hp hq
              have hyu : Ext wr u := ((Ext.refl wr).drew).trans h.ext
              exact h.yieldG rfl (wanted_yes (g := 4) (d' := 54) rfl rfl (h.at_ 4 rfl (pre_of hp 4 rfl))) 60 rfl (by change 60 < 65; decide) rfl _ rfl (run_of_sem rfl (by rw [h.at_ 9 rfl (pre_of hp 9 rfl)]; exact ld_ids (cm_cells (Hbc.out.ext (hx.trans hyu)) HR.out).2.1))
            case o11 =>
              intro f a u h hfi hp hq
              exact h.yieldG rfl (wanted_yes (g := 4) (d' := 54) rfl rfl (h.at_ 4 rfl (pre_of hp 4 rfl))) 61 rfl (by change 61 < 65; decide) rfl _ rfl (run_of_sem rfl (by rw [h.at_ 10 rfl (pre_of hp 10 rfl)]; exact ix_id (by rfl) (by decide)))
            case o12 =>
              intro f a u h hfi hp hq
              have hyu : Ext wr u := ((Ext.refl wr).drew).trans h.ext
              exact h.yieldG rfl (wanted_yes (g := 4) (d' := 54) rfl rfl (h.at_ 4 rfl (pre_of hp 4 rfl))) 62 rfl (by change 62 < 65; decide) rfl _ rfl (run_of_sem rfl (by rw [h.at_ 11 rfl (pre_of hp 11 rfl)]; exact HL1.out u hyu))
            case o13 =>
              intro f a u h hfi hp hq
              exact h.yieldG rfl (wanted_yes (g := 4) (d' := 54) rfl rfl (h.at_ 4 rfl (pre_of hp 4 rfl))) 63 rfl (by change 63 < 65; decide) rfl _ rfl (run_neq_id 58 62 cs0 cs1 true rfl (h.at_ 8 rfl (pre_of hp 8 rfl)) (h.at_ 12 rfl (pre_of hp 12 rfl)) (HZ.out u))
            case o14 =>
              intro f a u h hfi hp hq
              have q54 := h.att 4 rfl (pre_of hp 4 rfl)
              have q63 := h.att 13 rfl (pre_of hp 13 rfl)
              exact h.yieldG rfl (wanted_none rfl) 64 rfl (by change 64 < 65; decide) rfl _ rfl (by go_simp)
            case o15 =>
              intro f a u h hfi hp hq
              have q64 := h.att 14 rfl (pre_of hp 14 rfl)
              exact h.yieldG rfl (wanted_none rfl) 2 rfl (by change 2 < 65; decide) rfl _ rfl (by go_simp)
          · intro f a u h hall hfar
            have hyu : Ext wr u := ((Ext.refl wr).drew).trans h.ext
            have e2 := h.at_ 15 rfl (hall 15 (by decide))
            have hag := h.agree.out
            simp only [List.foldl_cons, List.foldl_nil, Act.put, List.setIfInBounds_toArray, List.set_cons_zero, List.set_cons_succ, e2] at hag
            generalize a.eval (.tmp 50) = y50 at hag
            generalize a.eval (.tmp 51) = y51 at hag
            generalize a.eval (.tmp 52) = y52 at hag
            generalize a.eval (.tmp 53) = y53 at hag
            generalize a.eval (.tmp 54) = y54 at hag
            generalize a.eval (.tmp 55) = y55 at hag
            generalize a.eval (.tmp 56) = y56 at hag
            generalize a.eval (.tmp 57) = y57 at hag
            generalize a.eval (.tmp 58) = y58 at hag
            generalize a.eval (.tmp 59) = y59 at hag
            generalize a.eval (.tmp 60) = y60 at hag
            generalize a.eval (.tmp 61) = y61 at hag
            generalize a.eval (.tmp 62) = y62 at hag
            generalize a.eval (.tmp 63) = y63 at hag
            generalize a.eval (.tmp 64) = y64 at hag
            clear h hall hfar e2
            subst hag
            go_wp2
            go_ret
            exact ⟨ret_bool HRR.out.symm, hxw.trans hyu⟩
        | false =>
          rw [hb] at HZ HRR
          clear hb
          refine wp_region_ops (FInv [50, 51, 52, 53, 54, 55, 56, 57, 58, 59, 60, 61, 62, 63, 64, 2] _ wr.drew [⟨0, none, 50, .val (.pointer (some ⟨g, 33, none⟩))⟩, ⟨1, none, 51, .val (.slice (some x) 2 qc)⟩, ⟨2, none, 52, .val (.int .i64 (2 : Nat))⟩, ⟨3, none, 53, .val (.bool false)⟩, ⟨4, none, 54, .val (.bool false)⟩, ⟨5, none, 55, .val (.pointer (some ⟨g, 33, none⟩))⟩, ⟨6, none, 56, .val (.slice (some x) 2 qc)⟩, ⟨7, none, 57, .val (.pointer (some (x.add (0 * 33))))⟩, ⟨8, none, 58, .val (.agg cs0)⟩, ⟨9, none, 59, .val (.pointer (some ⟨g, 33, none⟩))⟩, ⟨10, none, 60, .val (.slice (some x) 2 qc)⟩, ⟨11, none, 61, .val (.pointer (some (x.add (1 * 33))))⟩, ⟨12, none, 62, .val (.agg cs1)⟩, ⟨13, none, 63, .val (.bool true)⟩, ⟨14, none, 64, .val (.bool true)⟩, ⟨15, none, 2, .val (.bool true)⟩]) (by kernel_rfl) (by kernel_rfl) FInv.start ?_ ?_
          · refine ⟨?o0, ?o1, ?o2, ?o3, ?o4, ?o5, ?o6, ?o7, ?o8, ?o9, ?o10, ?o11, ?o12, ?o13, ?o14, ?o15, trivial⟩
            case o0 =>
              intro f a u h hfi hp hq
              exact h.yieldG rfl (wanted_none rfl) 50 rfl (by change 50 < 65; decide) rfl _ rfl (run_of_sem rfl (by rw [(show a.eval (.tmp 1) = .pointer (some ⟨g, 0, none⟩) from h.agree.eval (by decide))]; exact f_cm1 _ _))
            case o1 =>
              intro f a u h hfi hp hq
              have hyu : Ext wr u := ((Ext.refl wr).drew).trans h.ext
              exact h.yieldG rfl (wanted_none rfl) 51 rfl (by change 51 < 65; decide) rfl _ rfl (run_of_sem rfl (by rw [h.at_ 0 rfl (pre_of hp 0 rfl)]; exact ld_ids (cm_cells (Hbc.out.ext (hx.trans hyu)) HR.out).2.1))
            case o2 =>
              intro f a u h hfi hp hq
              have q51 := h.att 1 rfl (pre_of hp 1 rfl)
              exact h.yieldG rfl (wanted_none rfl) 52 rfl (by change 52 < 65; decide) rfl _ rfl (by go_simp)
            case o3 =>
              intro f a u h hfi hp hq
              have q52 := h.att 2 rfl (pre_of hp 2 rfl)
              exact h.yieldG rfl (wanted_none rfl) 53 rfl (by change 53 < 65; decide) rfl _ rfl (by go_simp)
            case o4 =>
              intro f a u h hfi hp hq
              have q53 := h.att 3 rfl (pre_of hp 3 rfl)
              exact h.yieldG rfl (wanted_none rfl) 54 rfl (by change 54 < 65; decide) rfl _ rfl (by go_simp)
            case o5 =>
              intro f a u h hfi hp hq
              exact h.yieldG rfl (wanted_yes (g := 4) (d' := 54) rfl rfl (h.at_ 4 rfl (pre_of hp 4 rfl))) 55 rfl (by change 55 < 65; decide) rfl _ rfl (run_of_sem rfl (by rw [(show a.eval (.tmp 1) = .pointer (some ⟨g, 0, none⟩) from h.agree.eval (by decide))]; exact f_cm1 _ _))
            case o6 =>
              intro f a u h hfi hp hq
              have hyu : Ext wr u := ((Ext.refl wr).drew).trans h.ext
              exact h.yieldG rfl (wanted_yes (g := 4) (d' := 54) rfl rfl (h.at_ 4 rfl (pre_of hp 4 rfl))) 56 rfl (by change 56 < 65; decide) rfl _ rfl (run_of_sem rfl (by rw [h.at_ 5 rfl (pre_of hp 5 rfl)]; exact ld_ids (cm_cells (Hbc.out.ext (hx.trans hyu)) HR.out).2.1))
            case o7 =>
              intro f a u h hfi hp hq
              exact h.yieldG rfl (wanted_yes (g := 4) (d' := 54) rfl rfl (h.at_ 4 rfl (pre_of hp 4 rfl))) 57 rfl (by change 57 < 65; decide) rfl _ rfl (run_of_sem rfl (by rw [h.at_ 6 rfl (pre_of hp 6 rfl)]; exact ix_id (by rfl) (by decide)))
            case o8 =>
              intro f a u h hfi hp hq
              have hyu : Ext wr u := ((Ext.refl wr).drew).trans h.ext
              exact h.yieldG rfl (wanted_yes (g := 4) (d' := 54) rfl rfl (h.at_ 4 rfl (pre_of hp 4 rfl))) 58 rfl (by change 58 < 65; decide) rfl _ rfl (run_of_sem rfl (by rw [h.at_ 7 rfl (pre_of hp 7 rfl)]; exact HL0.out u hyu))
            case o9 =>
              intro f a u h hfi hp hq
              exact h.yieldG rfl (wanted_yes (g := 4) (d' := 54) rfl rfl (h.at_ 4 rfl (pre_of hp 4 rfl))) 59 rfl (by change 59 < 65; decide) rfl _ rfl (run_of_sem rfl (by rw [(show a.eval (.tmp 1) = .pointer (some ⟨g, 0, none⟩) from h.agree.eval (by decide))]; exact f_cm1 _ _))
            case o10 =>
              intro f a u h hfi hp hq
              have hyu : Ext wr u := ((Ext.refl wr).drew).trans h.ext
              exact h.yieldG rfl (wanted_yes (g := 4) (d' := 54) rfl rfl (h.at_ 4 rfl (pre_of hp 4 rfl))) 60 rfl (by change 60 < 65; decide) rfl _ rfl (run_of_sem rfl (by rw [h.at_ 9 rfl (pre_of hp 9 rfl)]; exact ld_ids (cm_cells (Hbc.out.ext (hx.trans hyu)) HR.out).2.1))
            case o11 =>
              intro f a u h hfi hp hq
              exact h.yieldG rfl (wanted_yes (g := 4) (d' := 54) rfl rfl (h.at_ 4 rfl (pre_of hp 4 rfl))) 61 rfl (by change 61 < 65; decide) rfl _ rfl (run_of_sem rfl (by rw [h.at_ 10 rfl (pre_of hp 10 rfl)]; exact ix_id (by rfl) (by decide)))
            case o12 =>
              intro f a u h hfi hp hq
              have hyu : Ext wr u := ((Ext.refl wr).drew).trans h.ext
              exact h.yieldG rfl (wanted_yes (g := 4) (d' := 54) rfl rfl (h.at_ 4 rfl (pre_of hp 4 rfl))) 62 rfl (by change 62 < 65; decide) rfl _ rfl (run_of_sem rfl (by rw [h.at_ 11 rfl (pre_of hp 11 rfl)]; exact HL1.out u hyu))
            case o13 =>
              intro f a u h hfi hp hq
              exact h.yieldG rfl (wanted_yes (g := 4) (d' := 54) rfl rfl (h.at_ 4 rfl (pre_of hp 4 rfl))) 63 rfl (by change 63 < 65; decide) rfl _ rfl (run_neq_id 58 62 cs0 cs1 false rfl (h.at_ 8 rfl (pre_of hp 8 rfl)) (h.at_ 12 rfl (pre_of hp 12 rfl)) (HZ.out u))
            case o14 =>
              intro f a u h hfi hp hq
              have q54 := h.att 4 rfl (pre_of hp 4 rfl)
              have q63 := h.att 13 rfl (pre_of hp 13 rfl)
              exact h.yieldG rfl (wanted_none rfl) 64 rfl (by change 64 < 65; decide) rfl _ rfl (by go_simp)
            case o15 =>
              intro f a u h hfi hp hq
              have q64 := h.att 14 rfl (pre_of hp 14 rfl)
              exact h.yieldG rfl (wanted_none rfl) 2 rfl (by change 2 < 65; decide) rfl _ rfl (by go_simp)
          · intro f a u h hall hfar
            have hyu : Ext wr u := ((Ext.refl wr).drew).trans h.ext
            have e2 := h.at_ 15 rfl (hall 15 (by decide))
            have hag := h.agree.out
            simp only [List.foldl_cons, List.foldl_nil, Act.put, List.setIfInBounds_toArray, List.set_cons_zero, List.set_cons_succ, e2] at hag
            generalize a.eval (.tmp 50) = y50 at hag
            generalize a.eval (.tmp 51) = y51 at hag
            generalize a.eval (.tmp 52) = y52 at hag
            generalize a.eval (.tmp 53) = y53 at hag
            generalize a.eval (.tmp 54) = y54 at hag
            generalize a.eval (.tmp 55) = y55 at hag
            generalize a.eval (.tmp 56) = y56 at hag
            generalize a.eval (.tmp 57) = y57 at hag
            generalize a.eval (.tmp 58) = y58 at hag
            generalize a.eval (.tmp 59) = y59 at hag
            generalize a.eval (.tmp 60) = y60 at hag
            generalize a.eval (.tmp 61) = y61 at hag
            generalize a.eval (.tmp 62) = y62 at hag
            generalize a.eval (.tmp 63) = y63 at hag
            generalize a.eval (.tmp 64) = y64 at hag
            clear h hall hfar e2
            subst hag
            go_wp2
            go_ret
            exact ⟨ret_bool HRR.out.symm, hxw.trans hyu⟩
theorem rgoodCommit_calls (c : Cm) (qa : Option Addr) (Q qc : Nat) (w : World) (h : CmAt w c qa Q qc) :
    Calls Try.prog 21 #[cma c qa Q qc] w fun e w' => e = .returned (.bool c.good) ∧ Ext w w' := by
  have hQ := h.hq
  cases hgr : idGood c.root with
  | false =>
    have hg : c.good = false := by unfold Cm.good Cm.shape; rw [hgr]; simp
    rw [hg]
    exact rgoodCommit_bad c qa Q qc w h (.inl hgr)
  | true =>
    by_cases h1 : Q ≤ 2
    · by_cases h2 : c.note.size ≤ 32
      · by_cases h3 : c.num < 1
        · have hg : c.good = false := by unfold Cm.good Cm.shape; rw [decide_eq_false (show ¬ 1 ≤ c.num by omega)]; simp
          rw [hg]
          exact rgoodCommit_bad c qa Q qc w h (.inr ⟨hgr, .inr ⟨h1, .inr ⟨h2, .inl h3⟩⟩⟩)
        · by_cases h4 : 1024 < c.num
          · have hg : c.good = false := by unfold Cm.good Cm.shape; rw [decide_eq_false (show ¬ c.num ≤ 1024 by omega)]; simp
            rw [hg]
            exact rgoodCommit_bad c qa Q qc w h (.inr ⟨hgr, .inr ⟨h1, .inr ⟨h2, .inr ⟨h3, h4⟩⟩⟩⟩)
          · have hg : c.good = (List.range c.parents.length).all (paOk c) := by
              unfold Cm.good Cm.shape
              rw [hgr, hQ, decide_eq_true h1, decide_eq_true h2, decide_eq_true (show 1 ≤ c.num by omega), decide_eq_true (show c.num ≤ 1024 by omega)]
              rfl
            rw [hg]
            exact rgoodCommit_ok c qa Q qc w h hgr h1 h2 h3 h4
      · have hg : c.good = false := by unfold Cm.good Cm.shape; rw [decide_eq_false h2]; simp
        rw [hg]
        exact rgoodCommit_bad c qa Q qc w h (.inr ⟨hgr, .inr ⟨h1, .inl (by omega)⟩⟩)
    · have hg : c.good = false := by unfold Cm.good Cm.shape; rw [hQ, decide_eq_false h1]; simp
      rw [hg]
      exact rgoodCommit_bad c qa Q qc w h (.inr ⟨hgr, .inl (by omega)⟩)
end Go.Proofs.Ythepbcomeimcnaa
