/- The walk of object.PutCommit. -/
import Derived.Test.YthepbcomeimcnaaObjGoodC
import Derived.Test.YthepbcomeimcnaaObjPut
import Derived.Test.YthepbcomeimcnaaFacts
namespace Go.Proofs.Ythepbcomeimcnaa
open Go.RowKit
set_option linter.unusedVariables false

theorem cm_parts {c : Cm} (h : c.good = true) : c.parents.length ≤ 2 ∧ c.note.size ≤ 32 ∧ 1 ≤ c.num ∧ c.num ≤ 1024 := by
  unfold Cm.good Cm.shape at h
  simp only [Bool.and_eq_true, decide_eq_true_eq] at h
  exact ⟨h.1.1, h.1.2.1, h.1.2.2.1, h.1.2.2.2.1⟩
/-- The bytes up to the first k parents. -/
def cmsB (c : Cm) (k : Nat) : List UInt8 := [3, UInt8.ofNat c.parents.length] ++ idText c.root ++ (c.parents.take k).flatMap idText
theorem cmsB_succ (c : Cm) {k : Nat} (h : k < c.parents.length) : cmsB c (k + 1) = cmsB c k ++ idText c.parents[k] := by
  unfold cmsB
  rw [List.take_succ_eq_append_getElem h, List.flatMap_append]
  simp
theorem cmsB_len {c : Cm} (hr : c.root.length = 33) (hl : ∀ p ∈ c.parents, p.length = 33) : ∀ k ≤ c.parents.length, (cmsB c k).length ≤ 50 + 50 * k := by
  intro k
  induction k with
  | zero =>
    intro _
    have := idText_len hr
    simp only [cmsB, List.take_zero, List.flatMap_nil, List.append_nil, List.length_append, List.length_cons, List.length_nil]
    omega
  | succ k ih =>
    intro hk
    have h2 := ih (by omega)
    have h3 := idText_len (hl _ (List.getElem_mem hk))
    rw [cmsB_succ c hk, List.length_append]
    omega
theorem cm_bytes (c : Cm) : c.bytes = cmsB c c.parents.length ++ textB (blo c.note) ++ intB c.num := by
  unfold Cm.bytes cmsB
  rw [List.take_length]
theorem ln_ids {w : World} {a : Option Addr} {n c : Nat} (h : n ≤ 140737488351232) : IntKind.i64.wrap (n : Int) = (n : Int) := by
  simp only [IntKind.wrap, IntKind.bits, IntKind.signed]; simp; omega

set_option maxRecDepth 100000 in
set_option maxHeartbeats 8000000 in
theorem putCommit_bad (c : Cm) (qa : Option Addr) (Q qc : Nat) (w : World) (h : CmAt w c qa Q qc) (hg : c.good = false) :
    Calls Try.prog 12 #[cma c qa Q qc] w fun e w' => (∃ v, e = .returned (.tuple #[v, .int .i64 1]) ∧ Own w.heap.size w' v []) ∧ Ext w w' := by
  have Hh := Lib.hid h
  have HR := Lib.hid h.hr
  clear h
  go_enter Try.func12, Try.ntmps12
  have hbox : Blk (w.alloc (.cells (cmC c qa Q qc).toArray 31)) w.heap.size 31 (cmC c qa Q qc).toArray := Blk.new w _ _
  have hx0 : Ext w (w.alloc (.cells (cmC c qa Q qc).toArray 31)) := (Ext.refl _).alloc _
  have hcc : ∀ j v, (cmC c qa Q qc)[j]? = some v → (w.alloc (.cells (cmC c qa Q qc).toArray 31)).cell? ((⟨w.heap.size, 0, none⟩ : Addr).add j) = some v := fun j v hv => by
    rw [add_new, hbox.cell, ← Array.getElem?_toList, List.toList_toArray]
    exact hv
  have hlen : (cmC c qa Q qc).length = 36 := by simp [cmC, bv, HR.out]
  have HCC := Lib.hid hcc
  clear hbox
  go_wp2_with (first
    | (refine wpList_load_row_ rfl 31 (.tmp 1) rfl ⟨w.heap.size, 0, none⟩ rfl (cmC c qa Q qc) _ HCC.out Try.underlying31 rfl (by rw [cm_info, hlen]) ?_)
    | (go_at_call 22; ((with_reducible refine (goodCommit_calls c qa Q qc _ (Hh.out.ext hx0)).mono ?_); rintro e w1 ⟨rfl, hx1⟩; rw [hg]; have hx01 := hx0.trans hx1)))
  go_ret2
  exact ⟨⟨_, rfl, Own.nil _ _⟩, hx01⟩
set_option maxRecDepth 100000 in
set_option maxHeartbeats 8000000 in
theorem putCommit_ok (c : Cm) (qa : Option Addr) (Q qc : Nat) (w : World) (h : CmAt w c qa Q qc) (hg : c.good = true) :
    Calls Try.prog 12 #[cma c qa Q qc] w fun e w' => (∃ v, e = .returned (.tuple #[v, .int .i64 0]) ∧ Own w.heap.size w' v c.bytes) ∧ Ext w w' := by
  have Hh := Lib.hid h
  have HR := Lib.hid h.hr
  obtain ⟨hq2, hn32, hm1, hm2⟩ := cm_parts hg
  rw [h.hq] at hq2
  have e8 : IntKind.u8.wrap (Q : Int) = (Q : Int) := by simp only [IntKind.wrap, IntKind.bits, IntKind.signed]; simp; omega
  have Hfin := Lib.hid (by rw [cm_bytes, h.hq] : c.bytes = cmsB c Q ++ textB (blo c.note) ++ intB c.num)
  have HLEN := Lib.hid (fun k (hk : k ≤ c.parents.length) => cmsB_len h.hr h.sq k hk)
  clear h
  go_enter Try.func12, Try.ntmps12
  have hbox : Blk (w.alloc (.cells (cmC c qa Q qc).toArray 31)) w.heap.size 31 (cmC c qa Q qc).toArray := Blk.new w _ _
  have hx0 : Ext w (w.alloc (.cells (cmC c qa Q qc).toArray 31)) := (Ext.refl _).alloc _
  have hcc : ∀ j v, (cmC c qa Q qc)[j]? = some v → (w.alloc (.cells (cmC c qa Q qc).toArray 31)).cell? ((⟨w.heap.size, 0, none⟩ : Addr).add j) = some v := fun j v hv => by
    rw [add_new, hbox.cell, ← Array.getElem?_toList, List.toList_toArray]
    exact hv
  have hlen : (cmC c qa Q qc).length = 36 := by simp [cmC, bv, HR.out]
  have HCC := Lib.hid hcc
  have Hbox := Lib.hid hbox
  have HTR := fun w' => idtext_calls c.root w' HR.out
  unfold idv at HTR
  clear hbox hcc
  go_upto_region 3 with (first
    | (refine wpList_load_row_ rfl 31 (.tmp 1) rfl ⟨w.heap.size, 0, none⟩ rfl (cmC c qa Q qc) _ HCC.out Try.underlying31 rfl (by rw [cm_info, hlen]) ?_)
    | (go_at_call 22; ((with_reducible refine (goodCommit_calls c qa Q qc _ (Hh.out.ext hx0)).mono ?_); rintro e w1 ⟨rfl, hx1⟩; rw [hg]; have hx01 := hx0.trans hx1)))
  have HB1 := Lib.hid (Hbox.out.ext hx1)
  obtain ⟨g, hgg⟩ : ∃ g, g = w.heap.size := ⟨_, rfl⟩
  obtain ⟨L0, hL0⟩ : ∃ L0 : List UInt8, L0 = [3, UInt8.ofNat Q] := ⟨_, rfl⟩
  have hL0b : bv L0 = [.int .u8 3, .int .u8 (Q : Int)] := by rw [hL0]; exact two_u8 3 Q (by omega) (by omega)
  have HL0B := Lib.hid hL0b
  have hL0l : L0.length = 2 := by rw [hL0]; rfl
  have htl := idText_len HR.out
  have hst : cmsB c 0 = L0 ++ idText c.root := by unfold cmsB; rw [Hh.out.hq, hL0]; simp
  rw [← hgg] at HB1 ⊢
  have HGG := Lib.hid hgg
  have HST := Lib.hid hst
  clear hL0 hL0b hst hgg HCC Hbox
  refine wp_region_opsL (FInv [10, 11, 12, 13, 14, 15, 16, 17, 18] _ w1.drew [⟨0, none, 10, .val (.pointer (some ⟨g, 33, none⟩))⟩, ⟨1, none, 11, .val (.slice qa Q qc)⟩, ⟨2, none, 12, .val (.int .i64 (Q : Int))⟩, ⟨3, none, 13, .val (.int .u8 (Q : Int))⟩, ⟨4, some 8, 14, .own L0⟩, ⟨5, none, 15, .val (.pointer (some ⟨g, 0, none⟩))⟩, ⟨6, none, 16, .val (.agg (bv c.root).toArray)⟩, ⟨7, none, 17, .val (.string (bstr (idText c.root)))⟩, ⟨8, none, 18, .own (L0 ++ (bstr (idText c.root)).data.toList)⟩]) 9 (by kernel_rfl) (by kernel_rfl) rfl (by kernel_rfl) FInv.start ?_ ?_
  · refine ⟨?o0, ?o1, ?o2, ?o3, ?o4, ?o5, ?o6, ?o7, ?o8, trivial⟩
    case o0 =>
      intro f a u h hfi hp hq hcl
      exact h.yieldG rfl (wanted_none rfl) 10 rfl (by change 10 < 38; decide) rfl _ rfl (run_of_sem rfl (by rw [(show a.eval (.tmp 1) = .pointer (some ⟨g, 0, none⟩) from h.agree.eval (by decide))]; exact f_cm1 _ _))
    case o1 =>
      intro f a u h hfi hp hq hcl
      have hyu : Ext w1 u := ((Ext.refl w1).drew).trans h.ext
      exact h.yieldG rfl (wanted_none rfl) 11 rfl (by change 11 < 38; decide) rfl _ rfl (run_of_sem rfl (by rw [h.at_ 0 rfl (pre_of hp 0 rfl)]; exact ld_ids (cm_cells (HB1.out.ext hyu) HR.out).2.1))
    case o2 =>
      intro f a u h hfi hp hq hcl
      have q11 := h.att 1 rfl (pre_of hp 1 rfl)
      exact h.yieldG rfl (wanted_none rfl) 12 rfl (by change 12 < 38; decide) rfl _ rfl (by go_simp)
    case o3 =>
      intro f a u h hfi hp hq hcl
      have q12 := h.att 2 rfl (pre_of hp 2 rfl)
      exact h.yieldG rfl (wanted_none rfl) 13 rfl (by change 13 < 38; decide) rfl _ rfl (by go_simp)
    case o4 =>
      intro f a u h hfi hp hq hcl
      have q13 := h.att 3 rfl (pre_of hp 3 rfl)
      exact h.litO rfl (wanted_none rfl) 14 rfl (by change 14 < 38; decide) rfl (some 8) L0 rfl #[.int .u8 3, .int .u8 (Q : Int)] HL0B.out.symm 2 hL0l (by decide) rfl rfl (by go_simp)
    case o5 =>
      intro f a u h hfi hp hq hcl
      exact h.yieldG rfl (wanted_none rfl) 15 rfl (by change 15 < 38; decide) rfl _ rfl (run_of_sem rfl (by rw [(show a.eval (.tmp 1) = .pointer (some ⟨g, 0, none⟩) from h.agree.eval (by decide))]; exact f_cm0 _ _))
    case o6 =>
      intro f a u h hfi hp hq hcl
      have hyu : Ext w1 u := ((Ext.refl w1).drew).trans h.ext
      exact h.yieldG rfl (wanted_none rfl) 16 rfl (by change 16 < 38; decide) rfl _ rfl (run_of_sem rfl (by rw [h.at_ 5 rfl (pre_of hp 5 rfl)]; exact ld_id HR.out (cm_cells (HB1.out.ext hyu) HR.out).1))
    case o7 =>
      intro f a u h hfi hp hq hcl
      exact h.callG rfl (wanted_none rfl) 17 rfl (by change 17 < 38; decide) rfl _ rfl 26 #[.tmp 16] #[28] _ rfl (by kernel_rfl) (by rw [arr1, h.at_ 6 rfl (pre_of hp 6 rfl)]) (HTR u)
    case o8 =>
      intro f a u h hfi hp hq hcl
      exact h.appS hfi rfl (wanted_none rfl) 18 rfl (by change 18 < 38; decide) rfl rfl none L0 (bstr (idText c.root)) rfl 14 17 rfl (h.own 4 rfl (pre_of hp 4 rfl) (fun d hd => by cases hd; exact hfi)) (h.at_ 7 rfl (pre_of hp 7 rfl)) (by rw [hL0l, bstr_size]; omega)
  · intro f a u h hall
    have ho := h.own 8 rfl (hall 8 (by decide)) (fun d hd => by cases hd)
    rw [bstr_data, ← HST.out] at ho
    have hyu : Ext w1 u := ((Ext.refl w1).drew).trans h.ext
    refine wpOp_of rfl rfl (wp_yield (v := a.eval (.tmp 18)) (w' := u) (by go_simp) ?_)
    have hag := h.agree.out
    obtain ⟨v9, hv9⟩ : ∃ v9, v9 = a.eval (.tmp 18) := ⟨_, rfl⟩
    rw [← hv9] at ho ⊢
    clear hv9
    simp only [List.foldl_cons, List.foldl_nil, Act.put, List.setIfInBounds_toArray, List.set_cons_zero, List.set_cons_succ] at hag
    generalize a.eval (.tmp 10) = y10 at hag
    generalize a.eval (.tmp 11) = y11 at hag
    generalize a.eval (.tmp 12) = y12 at hag
    generalize a.eval (.tmp 13) = y13 at hag
    generalize a.eval (.tmp 14) = y14 at hag
    generalize a.eval (.tmp 15) = y15 at hag
    generalize a.eval (.tmp 16) = y16 at hag
    generalize a.eval (.tmp 17) = y17 at hag
    generalize a.eval (.tmp 18) = y18 at hag
    clear h hall
    subst hag
    simp only [Act.put, List.setIfInBounds_toArray, List.set_cons_zero, List.set_cons_succ]
    have hx02 : Ext w u := hx01.trans hyu
    have ho0 := ho.lower (B' := w1.heap.size) (Nat.le_refl _)
    obtain ⟨A9, k9, e9, l9, _, _⟩ := Own.form ho0
    subst e9
    have HO0 := Lib.hid ho0
    obtain ⟨c0, c1, c2, c3⟩ := cm_cells (HB1.out.ext hyu) HR.out
    have hcq := Hh.out.cq.ext hx01
    have HCQ := Lib.hid hcq
    clear ho ho0 c0 c2 c3 hcq
    go_wp2
    clear c1
    go_loopw [22, 4] (fun i v wr => ∃ (k : Nat) (A4 : Option Addr) (n4 c4 : Nat), k ≤ Q ∧ i = .int .i64 k ∧ v = .slice A4 n4 c4 ∧ Hid ((cmsB c k).length = n4) ∧ n4 ≤ c4 ∧ Own w1.heap.size wr v (cmsB c k) ∧ Ext w1 wr) (fun i _ _ => Q - (intOf i).toNat)
    case atStart => exact ⟨0, A9, _, k9, Nat.zero_le _, rfl, rfl, Lib.hid rfl, l9, HO0.out, hyu⟩
    case round =>
      obtain ⟨k, A4, n4, c4, hk, rfl, rfl, Hn4, hl4, hown, hx⟩ := hrel
      have hnb : n4 ≤ 1000 := by have := HLEN.out k (by rw [Hh.out.hq]; exact hk); rw [Hn4.out] at this; omega
      by_cases hlt : k < Q
      · have hkl : k < c.parents.length := by rw [Hh.out.hq]; exact hlt
        obtain ⟨x, rfl, _, hlc⟩ := id_row (HCQ.out.ext hx) hkl
        have hpl : (c.parents[k]).length = 33 := Hh.out.sq _ (List.getElem_mem hkl)
        have hsc := cmsB_succ c hkl
        obtain ⟨p, hp⟩ : ∃ p, p = c.parents[k] := ⟨_, rfl⟩
        rw [← hp] at hlc hpl hsc
        have HSC := Lib.hid hsc
        have HPL := Lib.hid hpl
        have htlp := idText_len HPL.out
        have HTP := fun w' => idtext_calls p w' HPL.out
        unfold idv at HTP
        obtain ⟨pre, hpre⟩ : ∃ pre, pre = cmsB c k := ⟨_, rfl⟩
        rw [← hpre] at hown Hn4 HSC
        clear hp hpl hsc hpre
        go_wp2_with (first
          | (refine wpList_load_row_ rfl 28 (.tmp 24) rfl (x.add (k * 33)) rfl (bv p) _ hlc Try.underlying28 rfl (by rw [id_info, bv_len, HPL.out]) ?_)
          | (refine wpList_store_blk rfl 28 (.tmp 6) (.tmp 25) rfl rfl wr.heap.size (bv p).toArray rfl rfl _ _ (Blk.new wr _ _) (by rw [List.size_toArray, bv_len, HPL.out]; rfl) (by kernel_rfl) (bv_cells p) ?_; intro w3 hb3 hg3; have hx3 : Ext wr w3 := ((Ext.refl _).alloc _).grown_ hg3 (by simp); have hlc6 : ∀ (j : Nat) (v : Value), (bv p)[j]? = some v → w3.cell? ((⟨wr.heap.size, 0, none⟩ : Addr).add j) = some v := (fun j v hv => by obtain ⟨b, hb, hc⟩ := id_box hb3 j v hv; cases hb; exact hc))
          | (refine wpList_load_row_ rfl 28 (.tmp 6) rfl ⟨wr.heap.size, 0, none⟩ rfl (bv p) _ hlc6 Try.underlying28 rfl (by rw [id_info, bv_len, HPL.out]) ?_)
          | (go_at_call 26; (with_reducible refine (HTP _).mono ?_); rintro e w4 ⟨rfl, hx4⟩)
          | (at_builtin; refine wpList_append_str _ rfl (.tmp 26) (.tmp 28) rfl w1.heap.size (.slice A4 n4 c4) pre rfl (hown.ext (hx3.trans hx4)) (bstr (idText p)) rfl (by rw [Hn4.out, bstr_size]; omega) (hx.trans (hx3.trans hx4)).size ?_; intro v5 w5 hown5 hg5; have hx5 : Ext w1 w5 := (hown.ext (hx3.trans hx4)).grows (hx.trans (hx3.trans hx4)) hg5; rw [bstr_data, ← HSC.out] at hown5; obtain ⟨A5, k5, e5, l5, _, _⟩ := Own.form hown5; subst e5))
        go_roundw
        case rel => exact ⟨k + 1, A5, _, k5, by omega, by go_num, rfl, Lib.hid rfl, l5, hown5, hx5⟩
        case measure => simp [intOf]; omega
      · obtain rfl : k = Q := by omega
        obtain ⟨pre, hpre⟩ : ∃ pre, pre = cmsB c k := ⟨_, rfl⟩
        rw [← hpre] at hown Hn4 Hfin
        obtain ⟨n5, hn5⟩ : ∃ n5, n5 = n4 + (1 + c.note.size) := ⟨_, rfl⟩
        have HL1 := Lib.hid (show (pre ++ textB (blo c.note)).length = n5 by rw [List.length_append, Hn4.out, textB_small (by rw [blo_len]; omega), blo_len, hn5])
        have hn5b : n5 ≤ 2000 := by omega
        clear hpre hn5
        have HB3 := Lib.hid (HB1.out.ext hx)
        have hc4 := hown.cells
        go_upto_region 9 with (fail)
        refine wp_region_ops (FInv [31, 32, 33, 34, 35, 36, 37, 2, 3] _ wr.drew [⟨0, none, 31, .val (.slice A4 n4 c4)⟩, ⟨1, none, 32, .val (.pointer (some ⟨g, 34, none⟩))⟩, ⟨2, none, 33, .val (.string c.note)⟩, ⟨3, none, 34, .own (pre ++ textB (blo c.note))⟩, ⟨4, none, 35, .val (.pointer (some ⟨g, 35, none⟩))⟩, ⟨5, none, 36, .val (.int .i64 c.num)⟩, ⟨6, none, 37, .own (pre ++ textB (blo c.note) ++ intB c.num)⟩, ⟨7, none, 2, .own (pre ++ textB (blo c.note) ++ intB c.num)⟩, ⟨8, none, 3, .val (.int .i64 0)⟩]) (by kernel_rfl) (by kernel_rfl) FInv.start ?_ ?_
        · refine ⟨?o0, ?o1, ?o2, ?o3, ?o4, ?o5, ?o6, ?o7, ?o8, trivial⟩
          case o0 =>
            intro f a u h hfi hp hq
            have q4 : a.tmps[4]?.getD undef = .slice A4 n4 c4 := h.agree.att (by decide)
            exact h.yieldG rfl (wanted_none rfl) 31 rfl (by change 31 < 38; decide) rfl _ rfl (by go_simp)
          case o1 =>
            intro f a u h hfi hp hq
            exact h.yieldG rfl (wanted_none rfl) 32 rfl (by change 32 < 38; decide) rfl _ rfl (run_of_sem rfl (by rw [(show a.eval (.tmp 1) = .pointer (some ⟨g, 0, none⟩) from h.agree.eval (by decide))]; exact f_cm2 _ _))
          case o2 =>
            intro f a u h hfi hp hq
            have hyu : Ext wr u := ((Ext.refl wr).drew).trans h.ext
            exact h.yieldG rfl (wanted_none rfl) 33 rfl (by change 33 < 38; decide) rfl _ rfl (run_of_sem rfl (by rw [h.at_ 1 rfl (pre_of hp 1 rfl)]; exact ld_str (cm_cells (HB3.out.ext hyu) HR.out).2.2.1))
          case o3 =>
            intro f a u h hfi hp hq
            have hyu : Ext wr u := ((Ext.refl wr).drew).trans h.ext
            exact h.callO rfl (wanted_none rfl) 34 rfl (by change 34 < 38; decide) rfl none _ rfl 25 #[.tmp 31, .tmp 33] #[35, 9] _ rfl (by kernel_rfl) (by rw [arr2, h.at_ 0 rfl (pre_of hp 0 rfl), h.at_ 2 rfl (pre_of hp 2 rfl)]) (text_calls A4 n4 c4 pre c.note u (hc4.ext hyu) Hn4.out hl4 (by omega))
          case o4 =>
            intro f a u h hfi hp hq
            exact h.yieldG rfl (wanted_none rfl) 35 rfl (by change 35 < 38; decide) rfl _ rfl (run_of_sem rfl (by rw [(show a.eval (.tmp 1) = .pointer (some ⟨g, 0, none⟩) from h.agree.eval (by decide))]; exact f_cm3 _ _))
          case o5 =>
            intro f a u h hfi hp hq
            have hyu : Ext wr u := ((Ext.refl wr).drew).trans h.ext
            exact h.yieldG rfl (wanted_none rfl) 36 rfl (by change 36 < 38; decide) rfl _ rfl (run_of_sem rfl (by rw [h.at_ 4 rfl (pre_of hp 4 rfl)]; exact ld_int (cm_cells (HB3.out.ext hyu) HR.out).2.2.2))
          case o6 =>
            intro f a u h hfi hp hq
            obtain ⟨A9, k9, e9, l9, _, c9⟩ := Own.form_at (h.own 3 rfl (pre_of hp 3 rfl) (fun d hd => by cases hd)) HL1.out
            exact h.callO rfl (wanted_none rfl) 37 rfl (by change 37 < 38; decide) rfl none _ rfl 27 #[.tmp 34, .tmp 36] #[35, 3] _ rfl (by kernel_rfl) (by rw [arr2, e9, h.at_ 5 rfl (pre_of hp 5 rfl)]) (int_calls A9 n5 k9 (pre ++ textB (blo c.note)) c.num u c9 HL1.out l9 (by omega) (by omega) (by omega))
          case o7 =>
            intro f a u h hfi hp hq
            have ho := h.own 6 rfl (pre_of hp 6 rfl) (fun d hd => by cases hd)
            exact h.stepG rfl (wanted_none rfl) (some 2) rfl rfl (wp_yield (v := a.eval (.tmp 37)) (w' := u) (by go_simp) ⟨_, rfl, Ext.refl _, born_own (by change 2 < 38; decide) h rfl ho⟩)
          case o8 =>
            intro f a u h hfi hp hq
            exact h.yieldG rfl (wanted_none rfl) 3 rfl (by change 3 < 38; decide) rfl _ rfl (by go_simp)
        · intro f a u h hall hfar
          have ho := h.own 7 rfl (hall 7 (by decide)) (fun d hd => by cases hd)
          have e3 := h.at_ 8 rfl (hall 8 (by decide))
          rw [← Hfin.out] at ho
          have hyu : Ext wr u := ((Ext.refl wr).drew).trans h.ext
          have hag := h.agree.out
          obtain ⟨v9, hv9⟩ : ∃ v9, v9 = a.eval (.tmp 2) := ⟨_, rfl⟩
          rw [← hv9] at ho
          simp only [List.foldl_cons, List.foldl_nil, Act.put, List.setIfInBounds_toArray, List.set_cons_zero, List.set_cons_succ] at hag
          rw [← hv9, e3] at hag
          clear hv9 e3
          generalize a.eval (.tmp 31) = y31 at hag
          generalize a.eval (.tmp 32) = y32 at hag
          generalize a.eval (.tmp 33) = y33 at hag
          generalize a.eval (.tmp 34) = y34 at hag
          generalize a.eval (.tmp 35) = y35 at hag
          generalize a.eval (.tmp 36) = y36 at hag
          generalize a.eval (.tmp 37) = y37 at hag
          clear h hall
          subst hag
          go_wp2
          go_ret2
          exact ⟨⟨_, rfl, ho.lower (by have := (hx01.trans hx).size; simpa using this)⟩, (hx01.trans hx).trans hyu⟩
/-- PutCommit: a commit's bytes, in new memory. -/
theorem putCommit_calls (c : Cm) (qa : Option Addr) (Q qc : Nat) (w : World) (h : CmAt w c qa Q qc) :
    Calls Try.prog 12 #[cma c qa Q qc] w fun e w' => (∃ v, e = .returned (.tuple #[v, .int .i64 (if c.good then 0 else 1)]) ∧ Own w.heap.size w' v (if c.good then c.bytes else [])) ∧ Ext w w' := by
  cases hg : c.good with
  | false => exact putCommit_bad c qa Q qc w h hg
  | true => exact putCommit_ok c qa Q qc w h hg
end Go.Proofs.Ythepbcomeimcnaa
