/- The walk of the reference's Commit, layer 15 (of commits that can be). -/
import Derived.Test.YthepbcomeimcnaaObjRef
namespace Go.Proofs.Ythepbcomeimcnaa
open Go.RowKit
set_option linter.unusedVariables false

set_option maxRecDepth 100000 in
set_option maxHeartbeats 8000000 in
theorem rcommit_calls (c : Cm) (qa : Option Addr) (Q qc : Nat) (w : World) (h : CmAt w c qa Q qc) (hg : c.good = true) :
    Calls Try.prog 16 #[cma c qa Q qc] w fun e w' => e = .returned (.string (bstr c.bytes)) ∧ Ext w w' := by
  have Hh := Lib.hid h
  have HR := Lib.hid h.hr
  obtain ⟨hq2, hn32, hm1, hm2⟩ := cm_parts hg
  rw [h.hq] at hq2
  have e8 : IntKind.u8.wrap (Q : Int) = (Q : Int) := by simp only [IntKind.wrap, IntKind.bits, IntKind.signed]; simp; omega
  have Hfin := Lib.hid (by rw [cm_bytes, h.hq] : c.bytes = cmsB c Q ++ textB (blo c.note) ++ intB c.num)
  have HLEN := Lib.hid (fun k (hk : k ≤ c.parents.length) => cmsB_len h.hr h.sq k hk)
  clear h
  go_enter Try.func16, Try.ntmps16
  obtain ⟨w1, hw1⟩ : ∃ w1, w1 = w.alloc (.cells (cmC c qa Q qc).toArray 31) := ⟨_, rfl⟩
  have hx01 : Ext w w1 := by rw [hw1]; exact (Ext.refl _).alloc _
  have HB1 := Lib.hid (show Blk w1 w.heap.size 31 (cmC c qa Q qc).toArray from by rw [hw1]; exact Blk.new w _ _)
  have HTR := fun w' => rname_calls c.root w' HR.out
  unfold idv at HTR
  go_upto_region 1 with (fail)
  rw [← hw1]
  clear hw1
  obtain ⟨g, hgg⟩ : ∃ g, g = w.heap.size := ⟨_, rfl⟩
  obtain ⟨L0, hL0⟩ : ∃ L0 : List UInt8, L0 = [3, UInt8.ofNat Q] := ⟨_, rfl⟩
  have HL0B := Lib.hid (show bv L0 = [.int .u8 3, .int .u8 (Q : Int)] by rw [hL0]; exact two_u8 3 Q (by omega) (by omega))
  have hL0l : L0.length = 2 := by rw [hL0]; rfl
  have htl := idText_len HR.out
  have HST := Lib.hid (show bstr L0 ++ bstr (idText c.root) = bstr (cmsB c 0) by rw [bstr_append]; unfold cmsB; rw [Hh.out.hq, hL0]; simp)
  have z1 : (bstr L0).size ≤ 100 := by rw [bstr_size]; omega
  have z2 : (bstr (idText c.root)).size ≤ 100 := by rw [bstr_size]; omega
  rw [← hgg] at HB1 ⊢
  clear hL0 hgg
  refine wp_region_opsL (FInv [6, 7, 8, 9, 10, 11, 12, 13, 14, 15] _ w1.drew [⟨0, none, 6, .val (.pointer (some ⟨g, 33, none⟩))⟩, ⟨1, none, 7, .val (.slice qa Q qc)⟩, ⟨2, none, 8, .val (.int .i64 (Q : Int))⟩, ⟨3, none, 9, .val (.int .u8 (Q : Int))⟩, ⟨4, none, 10, .own L0⟩, ⟨5, none, 11, .val (.string (bstr L0))⟩, ⟨6, none, 12, .val (.pointer (some ⟨g, 0, none⟩))⟩, ⟨7, none, 13, .val (.agg (bv c.root).toArray)⟩, ⟨8, none, 14, .val (.string (bstr (idText c.root)))⟩, ⟨9, none, 15, .val (.string (bstr L0 ++ bstr (idText c.root)))⟩]) 10 (by kernel_rfl) (by kernel_rfl) rfl (by kernel_rfl) FInv.start ?_ ?_
  · refine ⟨?o0, ?o1, ?o2, ?o3, ?o4, ?o5, ?o6, ?o7, ?o8, ?o9, trivial⟩
    case o0 =>
      intro f a u h hfi hp hq hcl
      exact h.yieldG rfl (wanted_none rfl) 6 rfl (by change 6 < 37; decide) rfl _ rfl (run_of_sem rfl (by rw [(show a.eval (.tmp 1) = .pointer (some ⟨g, 0, none⟩) from h.agree.eval (by decide))]; exact f_cm1 _ _))
    case o1 =>
      intro f a u h hfi hp hq hcl
      have hyu : Ext w1 u := ((Ext.refl w1).drew).trans h.ext
      exact h.yieldG rfl (wanted_none rfl) 7 rfl (by change 7 < 37; decide) rfl _ rfl (run_of_sem rfl (by rw [h.at_ 0 rfl (pre_of hp 0 rfl)]; exact ld_ids (cm_cells (HB1.out.ext hyu) HR.out).2.1))
    case o2 =>
      intro f a u h hfi hp hq hcl
      have q7 := h.att 1 rfl (pre_of hp 1 rfl)
      exact h.yieldG rfl (wanted_none rfl) 8 rfl (by change 8 < 37; decide) rfl _ rfl (by go_simp)
    case o3 =>
      intro f a u h hfi hp hq hcl
      have q8 := h.att 2 rfl (pre_of hp 2 rfl)
      exact h.yieldG rfl (wanted_none rfl) 9 rfl (by change 9 < 37; decide) rfl _ rfl (by go_simp)
    case o4 =>
      intro f a u h hfi hp hq hcl
      have q9 := h.att 3 rfl (pre_of hp 3 rfl)
      exact h.litO rfl (wanted_none rfl) 10 rfl (by change 10 < 37; decide) rfl none L0 rfl #[.int .u8 3, .int .u8 (Q : Int)] HL0B.out.symm 2 hL0l (by decide) rfl rfl (by go_simp)
    case o5 =>
      intro f a u h hfi hp hq hcl
      obtain ⟨A9, k9, e9, l9, _, c9⟩ := Own.form_at (h.own 4 rfl (pre_of hp 4 rfl) (fun d hd => by cases hd)) hL0l
      exact h.yieldG rfl (wanted_none rfl) 11 rfl (by change 11 < 37; decide) rfl _ rfl (run_of_sem rfl (by rw [e9]; exact conv_str (P := Try.prog) Try.underlying35 Try.underlying5 Try.underlying9 hL0l c9))
    case o6 =>
      intro f a u h hfi hp hq hcl
      exact h.yieldG rfl (wanted_none rfl) 12 rfl (by change 12 < 37; decide) rfl _ rfl (run_of_sem rfl (by rw [(show a.eval (.tmp 1) = .pointer (some ⟨g, 0, none⟩) from h.agree.eval (by decide))]; exact f_cm0 _ _))
    case o7 =>
      intro f a u h hfi hp hq hcl
      have hyu : Ext w1 u := ((Ext.refl w1).drew).trans h.ext
      exact h.yieldG rfl (wanted_none rfl) 13 rfl (by change 13 < 37; decide) rfl _ rfl (run_of_sem rfl (by rw [h.at_ 6 rfl (pre_of hp 6 rfl)]; exact ld_id HR.out (cm_cells (HB1.out.ext hyu) HR.out).1))
    case o8 =>
      intro f a u h hfi hp hq hcl
      exact h.callG rfl (wanted_none rfl) 14 rfl (by change 14 < 37; decide) rfl _ rfl 30 #[.tmp 13] #[28] _ rfl (by kernel_rfl) (by rw [arr1, h.at_ 7 rfl (pre_of hp 7 rfl)]) (HTR u)
    case o9 =>
      intro f a u h hfi hp hq hcl
      have q11 := h.att 5 rfl (pre_of hp 5 rfl)
      have q14 := h.att 8 rfl (pre_of hp 8 rfl)
      exact h.yieldG rfl (wanted_none rfl) 15 rfl (by change 15 < 37; decide) rfl _ rfl (by go_simp; omega)
  · intro f a u h hall
    have q15 := h.att 9 rfl (hall 9 (by decide))
    rw [HST.out] at q15
    have hyu : Ext w1 u := ((Ext.refl w1).drew).trans h.ext
    refine wpOp_of rfl rfl (wp_yield (v := .string (bstr (cmsB c 0))) (w' := u) (by go_simp) ?_)
    have hag := h.agree.out
    simp only [List.foldl_cons, List.foldl_nil, Act.put, List.setIfInBounds_toArray, List.set_cons_zero, List.set_cons_succ] at hag
    clear q15
    generalize a.eval (.tmp 6) = y6 at hag
    generalize a.eval (.tmp 7) = y7 at hag
    generalize a.eval (.tmp 8) = y8 at hag
    generalize a.eval (.tmp 9) = y9 at hag
    generalize a.eval (.tmp 10) = y10 at hag
    generalize a.eval (.tmp 11) = y11 at hag
    generalize a.eval (.tmp 12) = y12 at hag
    generalize a.eval (.tmp 13) = y13 at hag
    generalize a.eval (.tmp 14) = y14 at hag
    generalize a.eval (.tmp 15) = y15 at hag
    clear h hall
    subst hag
    simp only [Act.put, List.setIfInBounds_toArray, List.set_cons_zero, List.set_cons_succ]
    obtain ⟨c0, c1, c2, c3⟩ := cm_cells (HB1.out.ext hyu) HR.out
    have HCQ := Lib.hid (Hh.out.cq.ext hx01)
    have Z0 := Lib.hid (show (bstr (cmsB c 0)).size ≤ 1000 by rw [bstr_size]; have := HLEN.out 0 (Nat.zero_le _); omega)
    clear c0 c2 c3 z1 z2
    go_wp2
    clear c1
    go_loopw [19, 3] (fun i v wr => ∃ (k : Nat) (S : ByteArray), k ≤ Q ∧ i = .int .i64 k ∧ v = .string S ∧ Hid (S = bstr (cmsB c k)) ∧ S.size ≤ 1000 ∧ Ext w1 wr) (fun i _ _ => Q - (intOf i).toNat)
    case atStart => exact ⟨0, _, Nat.zero_le _, rfl, rfl, Lib.hid rfl, Z0.out, hyu⟩
    case round =>
      obtain ⟨k, S, hk, rfl, rfl, HS, hS2, hx⟩ := hrel
      by_cases hlt : k < Q
      · have hkl : k < c.parents.length := by rw [Hh.out.hq]; exact hlt
        obtain ⟨x, rfl, _, hlc⟩ := id_row (HCQ.out.ext hx) hkl
        have hpl : (c.parents[k]).length = 33 := Hh.out.sq _ (List.getElem_mem hkl)
        have hsc := cmsB_succ c hkl
        have hle := HLEN.out (k + 1) hkl
        obtain ⟨p, hp⟩ : ∃ p, p = c.parents[k] := ⟨_, rfl⟩
        rw [← hp] at hlc hpl hsc
        have HPL := Lib.hid hpl
        have htlp := idText_len HPL.out
        have HTP := fun w' => rname_calls p w' HPL.out
        unfold idv at HTP
        have z3 : (bstr (idText p)).size ≤ 100 := by rw [bstr_size]; omega
        have hfin : S ++ bstr (idText p) = bstr (cmsB c (k + 1)) := by rw [HS.out, bstr_append, hsc]
        have Z4 := Lib.hid (show (S ++ bstr (idText p)).size ≤ 1000 by rw [hfin, bstr_size]; omega)
        have HFIN := Lib.hid hfin
        clear hp hpl hsc hfin hle
        go_wp2_with (first
          | (refine wpList_load_row_ rfl 28 (.tmp 21) rfl (x.add (k * 33)) rfl (bv p) _ hlc Try.underlying28 rfl (by rw [id_info, bv_len, HPL.out]) ?_)
          | (refine wpList_store_blk rfl 28 (.tmp 5) (.tmp 22) rfl rfl wr.heap.size (bv p).toArray rfl rfl _ _ (Blk.new wr _ _) (by rw [List.size_toArray, bv_len, HPL.out]; rfl) (by kernel_rfl) (bv_cells p) ?_; intro w3 hb3 hg3; have hx3 : Ext wr w3 := ((Ext.refl _).alloc _).grown_ hg3 (by simp); have hlc6 : ∀ (j : Nat) (v : Value), (bv p)[j]? = some v → w3.cell? ((⟨wr.heap.size, 0, none⟩ : Addr).add j) = some v := (fun j v hv => by obtain ⟨b, hb, hc⟩ := id_box hb3 j v hv; cases hb; exact hc))
          | (refine wpList_load_row_ rfl 28 (.tmp 5) rfl ⟨wr.heap.size, 0, none⟩ rfl (bv p) _ hlc6 Try.underlying28 rfl (by rw [id_info, bv_len, HPL.out]) ?_)
          | (go_at_call 30; (with_reducible refine (HTP _).mono ?_); rintro e w4 ⟨rfl, hx4⟩))
        go_roundw
        case rel => exact ⟨k + 1, _, by omega, by go_num, rfl, HFIN, Z4.out, hx.trans (hx3.trans hx4)⟩
        case measure => simp [intOf]; omega
      · obtain rfl : k = Q := by omega
        have HB3 := Lib.hid (HB1.out.ext hx)
        have hni : (intB c.num).length ≤ 10 := sizeN_64 (zig_lt (by omega) (by omega))
        have z1 : (bstr (textB (blo c.note))).size ≤ 100 := by rw [bstr_size, textB_small (by rw [blo_len]; omega), blo_len]; omega
        have z2 : (bstr (intB c.num)).size ≤ 10 := by rw [bstr_size]; exact hni
        have HFIN := Lib.hid (show S ++ bstr (textB (blo c.note)) ++ bstr (intB c.num) = bstr c.bytes by rw [HS.out, bstr_append, bstr_append, Hfin.out])
        clear hni
        go_upto_region 7 with (fail)
        refine wp_region_ops (FInv [28, 29, 30, 31, 32, 33, 34, 35, 36, 2] _ wr.drew [⟨0, none, 28, .val (.string S)⟩, ⟨1, none, 29, .val (.pointer (some ⟨g, 34, none⟩))⟩, ⟨2, none, 30, .val (.string c.note)⟩, ⟨3, none, 31, .val (.string (bstr (textB (blo c.note))))⟩, ⟨4, none, 32, .val (.string (S ++ bstr (textB (blo c.note))))⟩, ⟨5, none, 33, .val (.pointer (some ⟨g, 35, none⟩))⟩, ⟨6, none, 34, .val (.int .i64 c.num)⟩, ⟨7, none, 35, .val (.string (bstr (intB c.num)))⟩, ⟨8, none, 36, .val (.string (S ++ bstr (textB (blo c.note)) ++ bstr (intB c.num)))⟩, ⟨9, none, 2, .val (.string (S ++ bstr (textB (blo c.note)) ++ bstr (intB c.num)))⟩]) (by kernel_rfl) (by kernel_rfl) FInv.start ?_ ?_
        · refine ⟨?o0, ?o1, ?o2, ?o3, ?o4, ?o5, ?o6, ?o7, ?o8, ?o9, trivial⟩
          case o0 =>
            intro f a u h hfi hp hq
            have q3 : a.tmps[3]?.getD undef = .string S := h.agree.att (by decide)
            exact h.yieldG rfl (wanted_none rfl) 28 rfl (by change 28 < 37; decide) rfl _ rfl (by go_simp)
          case o1 =>
            intro f a u h hfi hp hq
            exact h.yieldG rfl (wanted_none rfl) 29 rfl (by change 29 < 37; decide) rfl _ rfl (run_of_sem rfl (by rw [(show a.eval (.tmp 1) = .pointer (some ⟨g, 0, none⟩) from h.agree.eval (by decide))]; exact f_cm2 _ _))
          case o2 =>
            intro f a u h hfi hp hq
            have hyu : Ext wr u := ((Ext.refl wr).drew).trans h.ext
            exact h.yieldG rfl (wanted_none rfl) 30 rfl (by change 30 < 37; decide) rfl _ rfl (run_of_sem rfl (by rw [h.at_ 1 rfl (pre_of hp 1 rfl)]; exact ld_str (cm_cells (HB3.out.ext hyu) HR.out).2.2.1))
          case o3 =>
            intro f a u h hfi hp hq
            exact h.callG rfl (wanted_none rfl) 31 rfl (by change 31 < 37; decide) rfl _ rfl 29 #[.tmp 30] #[9] _ rfl (by kernel_rfl) (by rw [arr1, h.at_ 2 rfl (pre_of hp 2 rfl)]) (refText_calls c.note u (by omega))
          case o4 =>
            intro f a u h hfi hp hq
            have q28 := h.att 0 rfl (pre_of hp 0 rfl)
            have q31 := h.att 3 rfl (pre_of hp 3 rfl)
            exact h.yieldG rfl (wanted_none rfl) 32 rfl (by change 32 < 37; decide) rfl _ rfl (by go_simp; omega)
          case o5 =>
            intro f a u h hfi hp hq
            exact h.yieldG rfl (wanted_none rfl) 33 rfl (by change 33 < 37; decide) rfl _ rfl (run_of_sem rfl (by rw [(show a.eval (.tmp 1) = .pointer (some ⟨g, 0, none⟩) from h.agree.eval (by decide))]; exact f_cm3 _ _))
          case o6 =>
            intro f a u h hfi hp hq
            have hyu : Ext wr u := ((Ext.refl wr).drew).trans h.ext
            exact h.yieldG rfl (wanted_none rfl) 34 rfl (by change 34 < 37; decide) rfl _ rfl (run_of_sem rfl (by rw [h.at_ 5 rfl (pre_of hp 5 rfl)]; exact ld_int (cm_cells (HB3.out.ext hyu) HR.out).2.2.2))
          case o7 =>
            intro f a u h hfi hp hq
            exact h.callG rfl (wanted_none rfl) 35 rfl (by change 35 < 37; decide) rfl _ rfl 31 #[.tmp 34] #[3] _ rfl (by kernel_rfl) (by rw [arr1, h.at_ 6 rfl (pre_of hp 6 rfl)]) (refInt_calls c.num u (by omega) (by omega))
          case o8 =>
            intro f a u h hfi hp hq
            have q32 := h.att 4 rfl (pre_of hp 4 rfl)
            have q35 := h.att 7 rfl (pre_of hp 7 rfl)
            exact h.yieldG rfl (wanted_none rfl) 36 rfl (by change 36 < 37; decide) rfl _ rfl (by go_simp; omega)
          case o9 =>
            intro f a u h hfi hp hq
            have q36 := h.att 8 rfl (pre_of hp 8 rfl)
            exact h.yieldG rfl (wanted_none rfl) 2 rfl (by change 2 < 37; decide) rfl _ rfl (by go_simp)
        · intro f a u h hall hfar
          have e2 := h.at_ 9 rfl (hall 9 (by decide))
          rw [HFIN.out] at e2
          have hyu : Ext wr u := ((Ext.refl wr).drew).trans h.ext
          have hag := h.agree.out
          simp only [List.foldl_cons, List.foldl_nil, Act.put, List.setIfInBounds_toArray, List.set_cons_zero, List.set_cons_succ] at hag
          rw [e2] at hag
          clear e2
          generalize a.eval (.tmp 28) = y28 at hag
          generalize a.eval (.tmp 29) = y29 at hag
          generalize a.eval (.tmp 30) = y30 at hag
          generalize a.eval (.tmp 31) = y31 at hag
          generalize a.eval (.tmp 32) = y32 at hag
          generalize a.eval (.tmp 33) = y33 at hag
          generalize a.eval (.tmp 34) = y34 at hag
          generalize a.eval (.tmp 35) = y35 at hag
          generalize a.eval (.tmp 36) = y36 at hag
          clear h hall
          subst hag
          go_wp2
          go_ret
          exact ⟨rfl, (hx01.trans hx).trans hyu⟩
end Go.Proofs.Ythepbcomeimcnaa
