/- ObjectSizes: a tree's and a commit's bytes are as many as the document says: the walk of the law. -/
import Derived.Test.YthepbcomeimcnaaObjLaw
namespace Go.Proofs.Ythepbcomeimcnaa
open Go.RowKit
set_option linter.unusedVariables false

/-- How long a name's text is. -/
def idL (b : List UInt8) : Nat := if (idKind b).toNat = 2 then 33 else 9
theorem idText_L {b : List UInt8} (h : b.length = 33) (hg : idGood b = true) : (idText b).length = idL b := by
  unfold idText
  rw [if_pos hg]
  unfold idGood at hg
  rw [Bool.and_eq_true, decide_eq_true_eq] at hg
  have hp := hg.1
  unfold idL
  by_cases h2 : idKind b = 2
  · rw [h2, idN_two, List.length_take, h]; rfl
  · have h2' : ¬ (idKind b).toNat = 2 := fun e => h2 (UInt8.toNat_inj.1 e)
    by_cases h1 : idKind b = 1
    · rw [h1, idN_one, List.length_take, h]; rfl
    · rw [idN_other h1 h2] at hp; omega
theorem int_len {n : Int} (h1 : 1 ≤ n) (h2 : n ≤ 1024) : (intB n).length = if 63 < n then 2 else 1 := by
  have e : zig n = (2 * n).toNat := by unfold zig; rw [if_pos (by omega)]
  unfold intB
  rw [e]
  split
  · rw [uintB_ge (by omega), uintB_lt (by omega)]; rfl
  · rw [uintB_lt (by omega)]; rfl
theorem cm_kinds {c : Cm} (h : c.good = true) : idGood c.root = true ∧ ∀ p ∈ c.parents, idGood p = true ∧ idKind p = idKind c.root := by
  unfold Cm.good Cm.shape at h
  simp only [Bool.and_eq_true, List.all_eq_true, List.mem_range] at h
  refine ⟨h.1.2.2.2.2, fun p hp => ?_⟩
  obtain ⟨i, hi, rfl⟩ := List.getElem_of_mem hp
  have := h.2 i hi
  unfold paOk at this
  rw [paAt_get hi] at this
  simp only [Bool.and_eq_true, beq_iff_eq] at this
  exact ⟨this.1, this.2.1⟩
theorem flat_same {L : Nat} : ∀ (ps : List (List UInt8)), (∀ p ∈ ps, (idText p).length = L) → (ps.flatMap idText).length = L * ps.length
  | [], _ => rfl
  | p :: ps, h => by
    rw [List.flatMap_cons, List.length_append, flat_same ps (fun q hq => h q (List.mem_cons_of_mem _ hq)), h p (List.mem_cons_self ..), List.length_cons, Nat.mul_add, Nat.mul_one, Nat.add_comm]
theorem cm_len {c : Cm} (hg : c.good = true) (hr : c.root.length = 33) (hl : ∀ p ∈ c.parents, p.length = 33) :
    c.bytes.length = 2 + idL c.root * (1 + c.parents.length) + 1 + c.note.size + (if 63 < c.num then 2 else 1) := by
  obtain ⟨_, hn, h1, h2⟩ := cm_parts hg
  obtain ⟨hgr, hk⟩ := cm_kinds hg
  unfold Cm.bytes
  rw [List.length_append, List.length_append, List.length_append, List.length_append, idText_L hr hgr, int_len h1 h2, textB_small (by rw [blo_len]; omega), blo_len,
    flat_same c.parents (L := idL c.root) fun p hp => by rw [idText_L (hl p hp) (hk p hp).1]; unfold idL; rw [(hk p hp).2]]
  rw [Nat.mul_add, Nat.mul_one]
  simp only [List.length_cons, List.length_nil]
  omega
theorem tr_len {t : Tr} (h : t.good = true) : ∀ k ≤ t.pairs.length, (prsB t k).length ≤ 2 + 34 * k := prsB_len h

set_option maxRecDepth 100000 in
set_option maxHeartbeats 16000000 in
theorem objectSizes_bad (t : Tr) (pa ka : Option Addr) (P K pc kc : Nat) (c : Cm) (qa : Option Addr) (Q qc : Nat) (w : World) (h : TrAt w t pa ka P K pc kc) (hc : CmAt w c qa Q qc) (hg : t.good = false) :
    Calls Try.prog 4 #[tra pa P pc ka K kc, cma c qa Q qc] w fun e w' => e = .returned (.bool true) ∧ Ext w w' := by
  have Hh := Lib.hid h
  have Hc := Lib.hid hc
  have HR := Lib.hid hc.hr
  have hsn := hc.sn
  have hbq := hc.bq
  have hbk := h.bk
  have hbp := h.bp
  clear h hc
  go_enter Try.func4, Try.ntmps4
  obtain ⟨w0, hw0⟩ : ∃ w0, w0 = (w.alloc (.cells #[.slice pa P pc, .slice ka K kc] 25)).alloc (.cells (cmC c qa Q qc).toArray 31) := ⟨_, rfl⟩
  have hx0 : Ext w w0 := by rw [hw0]; exact ((Ext.refl _).alloc _).alloc _
  have Hbt := Lib.hid (show Blk w0 w.heap.size 25 #[.slice pa P pc, .slice ka K kc] from by rw [hw0]; exact (Blk.new w _ _).ext ((Ext.refl _).alloc _))
  have Hbc := Lib.hid (show Blk w0 (w.heap.size + 1) 31 (cmC c qa Q qc).toArray from by rw [hw0]; have e := Blk.new (w.alloc (.cells #[.slice pa P pc, .slice ka K kc] 25)) 31 (cmC c qa Q qc).toArray; simpa using e)
  have hlen : (cmC c qa Q qc).length = 36 := by simp [cmC, bv, HR.out]
  go_upto_region 1 with (fail)
  rw [← hw0]
  clear hw0
  have HT := Lib.hid (tree_cells Hbt.out)
  have HC := Lib.hid (show ∀ j v, (cmC c qa Q qc)[j]? = some v → w0.cell? ((⟨w.heap.size + 1, 0, none⟩ : Addr).add j) = some v from fun j v hv => by rw [add_new, Hbc.out.cell, ← Array.getElem?_toList, List.toList_toArray]; exact hv)
  obtain ⟨g, hg1⟩ : ∃ g, g = w.heap.size := ⟨_, rfl⟩
  obtain ⟨c0, c1⟩ := HT.out
  rw [← hg1] at c0 c1 ⊢
  rw [← hg1] at Hbt Hbc HC
  clear HT hg1
  go_upto_region 3 with (go_at_call 8; (with_reducible refine (obj_alive _).mono ?_); rintro e w1 ⟨rfl, hx1⟩; clear c0 c1; obtain ⟨c0, c1⟩ := tree_cells (Hbt.out.ext hx1); have hy1 := hx0.trans hx1)
  go_upto_region 5 with (first
    | (go_at_call 9; (with_reducible refine (greatTree_calls t pa ka P K pc kc _ (Hh.out.ext hy1)).mono ?_); rintro e w2 ⟨⟨b, rfl⟩, hx2⟩; have hx02 := hx1.trans hx2; have hy2 := hy1.trans hx2; cases b)
    | (refine wp_load_row_ 31 (.tmp 3) rfl ⟨g + 1, 0, none⟩ rfl (cmC c qa Q qc) _ (fun j v hv => hx02.cell (HC.out j v hv)) Try.underlying31 rfl (by rw [cm_info, hlen]) ?_)
    | (go_at_call 10; (with_reducible refine (greatCommit_calls c qa Q qc _ (Hc.out.ext hy2)).mono ?_); rintro e w3 ⟨⟨b, rfl⟩, hx3⟩; cases b))
  rotate_left
  · go_ret
    exact ⟨rfl, hy2.trans hx3⟩
  · go_ret
    exact ⟨rfl, hy2⟩
  have hy3 := hy2.trans hx3
  have hx03 := hx02.trans hx3
  clear c0 c1
  obtain ⟨c0, c1⟩ := tree_cells (Hbt.out.ext hx03)
  go_upto_region 15 with (go_at_call 11; (with_reducible refine (putTree_calls t pa ka P K pc kc _ (Hh.out.ext hy3)).mono ?_); rw [hg]; rintro e w4 ⟨⟨v4, rfl, own4⟩, hx4⟩; clear c0 c1; obtain ⟨c0, c1⟩ := tree_cells (Hbt.out.ext (hx03.trans hx4)))
  have hy4 := hy3.trans hx4
  have hx04 := hx03.trans hx4
  clear c0 c1 own4
  cases hcg : c.good with
  | false =>
    go_wp2_with (first
      | (refine wpList_load_row_ rfl 31 (.tmp 3) rfl ⟨g + 1, 0, none⟩ rfl (cmC c qa Q qc) _ (fun j v hv => (hx04).cell (HC.out j v hv)) Try.underlying31 rfl (by rw [cm_info, hlen]) ?_)
      | (go_at_call 12; (with_reducible refine (putCommit_calls c qa Q qc _ (Hc.out.ext (hy4))).mono ?_); rw [hcg]; rintro e w5 ⟨⟨v5, rfl, own5⟩, hx5⟩))
    go_ret
    exact ⟨rfl, (hy4).trans hx5⟩
  | true =>
    have hcl := cm_len hcg HR.out Hc.out.sq
    have hq2 := (cm_parts hcg).1
    rw [Hc.out.hq] at hq2 hcl
    obtain ⟨n5, hn5⟩ : ∃ n5, n5 = c.bytes.length := ⟨_, rfl⟩
    rw [← hn5] at hcl
    have Hn5 := Lib.hid hn5
    clear hn5
    have Hcl := Lib.hid hcl
    clear hcl
    go_upto_region 16 with (first
      | (refine wpList_load_row_ rfl 31 (.tmp 3) rfl ⟨g + 1, 0, none⟩ rfl (cmC c qa Q qc) _ (fun j v hv => (hx04).cell (HC.out j v hv)) Try.underlying31 rfl (by rw [cm_info, hlen]) ?_)
      | ((go_at_call 12; (with_reducible refine (putCommit_calls c qa Q qc _ (Hc.out.ext (hy4))).mono ?_); rw [hcg]; rintro e w5 ⟨⟨v5, rfl, own5⟩, hx5⟩); obtain ⟨A5, k5, e5, l5, _, _⟩ := Own.form_at own5 Hn5.out.symm; subst e5))
    obtain ⟨d0, d1, d2, d3⟩ := cm_cells (Hbc.out.ext ((hx04).trans hx5)) HR.out
    have d9 := Cells.head d0 (by rw [HR.out]; decide)
    clear d0 own5
    by_cases hk : (idKind c.root).toNat = 2
    · have hk' : ((idKind c.root).toNat : Int) = 2 := by omega
      rw [show idL c.root = 33 from if_pos hk] at Hcl
      clear hk
      by_cases hm : 63 < c.num
      · rw [if_pos hm] at Hcl
        go_wp2
        go_ret
        exact ⟨by (have hfn := Hcl.out; refine ret_bool ?_; first | exact beq_iff_eq.2 (by omega) | exact (beq_iff_eq.2 (by omega)).symm), (hy4).trans hx5⟩
      · rw [if_neg hm] at Hcl
        go_wp2
        go_ret
        exact ⟨by (have hfn := Hcl.out; refine ret_bool ?_; first | exact beq_iff_eq.2 (by omega) | exact (beq_iff_eq.2 (by omega)).symm), (hy4).trans hx5⟩
    · have hk' : ¬ ((idKind c.root).toNat : Int) = 2 := by omega
      rw [show idL c.root = 9 from if_neg hk] at Hcl
      clear hk
      by_cases hm : 63 < c.num
      · rw [if_pos hm] at Hcl
        go_wp2
        go_ret
        exact ⟨by (have hfn := Hcl.out; refine ret_bool ?_; first | exact beq_iff_eq.2 (by omega) | exact (beq_iff_eq.2 (by omega)).symm), (hy4).trans hx5⟩
      · rw [if_neg hm] at Hcl
        go_wp2
        go_ret
        exact ⟨by (have hfn := Hcl.out; refine ret_bool ?_; first | exact beq_iff_eq.2 (by omega) | exact (beq_iff_eq.2 (by omega)).symm), (hy4).trans hx5⟩
set_option maxRecDepth 100000 in
set_option maxHeartbeats 16000000 in
theorem objectSizes_kids (t : Tr) (pa ka : Option Addr) (P K pc kc : Nat) (c : Cm) (qa : Option Addr) (Q qc : Nat) (w : World) (h : TrAt w t pa ka P K pc kc) (hc : CmAt w c qa Q qc) (hg : t.good = true) (hK : 0 < K) :
    Calls Try.prog 4 #[tra pa P pc ka K kc, cma c qa Q qc] w fun e w' => e = .returned (.bool true) ∧ Ext w w' := by
  have hne : ¬ (K : Int) = 0 := by omega
  have Hh := Lib.hid h
  have Hc := Lib.hid hc
  have HR := Lib.hid hc.hr
  have hsn := hc.sn
  have hbq := hc.bq
  have hbk := h.bk
  have hbp := h.bp
  clear h hc
  go_enter Try.func4, Try.ntmps4
  obtain ⟨w0, hw0⟩ : ∃ w0, w0 = (w.alloc (.cells #[.slice pa P pc, .slice ka K kc] 25)).alloc (.cells (cmC c qa Q qc).toArray 31) := ⟨_, rfl⟩
  have hx0 : Ext w w0 := by rw [hw0]; exact ((Ext.refl _).alloc _).alloc _
  have Hbt := Lib.hid (show Blk w0 w.heap.size 25 #[.slice pa P pc, .slice ka K kc] from by rw [hw0]; exact (Blk.new w _ _).ext ((Ext.refl _).alloc _))
  have Hbc := Lib.hid (show Blk w0 (w.heap.size + 1) 31 (cmC c qa Q qc).toArray from by rw [hw0]; have e := Blk.new (w.alloc (.cells #[.slice pa P pc, .slice ka K kc] 25)) 31 (cmC c qa Q qc).toArray; simpa using e)
  have hlen : (cmC c qa Q qc).length = 36 := by simp [cmC, bv, HR.out]
  go_upto_region 1 with (fail)
  rw [← hw0]
  clear hw0
  have HT := Lib.hid (tree_cells Hbt.out)
  have HC := Lib.hid (show ∀ j v, (cmC c qa Q qc)[j]? = some v → w0.cell? ((⟨w.heap.size + 1, 0, none⟩ : Addr).add j) = some v from fun j v hv => by rw [add_new, Hbc.out.cell, ← Array.getElem?_toList, List.toList_toArray]; exact hv)
  obtain ⟨g, hg1⟩ : ∃ g, g = w.heap.size := ⟨_, rfl⟩
  obtain ⟨c0, c1⟩ := HT.out
  rw [← hg1] at c0 c1 ⊢
  rw [← hg1] at Hbt Hbc HC
  clear HT hg1
  go_upto_region 3 with (go_at_call 8; (with_reducible refine (obj_alive _).mono ?_); rintro e w1 ⟨rfl, hx1⟩; clear c0 c1; obtain ⟨c0, c1⟩ := tree_cells (Hbt.out.ext hx1); have hy1 := hx0.trans hx1)
  go_upto_region 5 with (first
    | (go_at_call 9; (with_reducible refine (greatTree_calls t pa ka P K pc kc _ (Hh.out.ext hy1)).mono ?_); rintro e w2 ⟨⟨b, rfl⟩, hx2⟩; have hx02 := hx1.trans hx2; have hy2 := hy1.trans hx2; cases b)
    | (refine wp_load_row_ 31 (.tmp 3) rfl ⟨g + 1, 0, none⟩ rfl (cmC c qa Q qc) _ (fun j v hv => hx02.cell (HC.out j v hv)) Try.underlying31 rfl (by rw [cm_info, hlen]) ?_)
    | (go_at_call 10; (with_reducible refine (greatCommit_calls c qa Q qc _ (Hc.out.ext hy2)).mono ?_); rintro e w3 ⟨⟨b, rfl⟩, hx3⟩; cases b))
  rotate_left
  · go_ret
    exact ⟨rfl, hy2.trans hx3⟩
  · go_ret
    exact ⟨rfl, hy2⟩
  have hy3 := hy2.trans hx3
  have hx03 := hx02.trans hx3
  clear c0 c1
  obtain ⟨c0, c1⟩ := tree_cells (Hbt.out.ext hx03)
  go_upto_region 15 with (go_at_call 11; (with_reducible refine (putTree_calls t pa ka P K pc kc _ (Hh.out.ext hy3)).mono ?_); rw [hg]; rintro e w4 ⟨⟨v4, rfl, own4⟩, hx4⟩; clear c0 c1; obtain ⟨c0, c1⟩ := tree_cells (Hbt.out.ext (hx03.trans hx4)))
  have hy4 := hy3.trans hx4
  have hx04 := hx03.trans hx4
  clear c0 c1 own4
  cases hcg : c.good with
  | false =>
    go_wp2_with (first
      | (refine wpList_load_row_ rfl 31 (.tmp 3) rfl ⟨g + 1, 0, none⟩ rfl (cmC c qa Q qc) _ (fun j v hv => (hx04).cell (HC.out j v hv)) Try.underlying31 rfl (by rw [cm_info, hlen]) ?_)
      | (go_at_call 12; (with_reducible refine (putCommit_calls c qa Q qc _ (Hc.out.ext (hy4))).mono ?_); rw [hcg]; rintro e w5 ⟨⟨v5, rfl, own5⟩, hx5⟩))
    go_ret
    exact ⟨rfl, (hy4).trans hx5⟩
  | true =>
    have hcl := cm_len hcg HR.out Hc.out.sq
    have hq2 := (cm_parts hcg).1
    rw [Hc.out.hq] at hq2 hcl
    obtain ⟨n5, hn5⟩ : ∃ n5, n5 = c.bytes.length := ⟨_, rfl⟩
    rw [← hn5] at hcl
    have Hn5 := Lib.hid hn5
    clear hn5
    have Hcl := Lib.hid hcl
    clear hcl
    go_upto_region 16 with (first
      | (refine wpList_load_row_ rfl 31 (.tmp 3) rfl ⟨g + 1, 0, none⟩ rfl (cmC c qa Q qc) _ (fun j v hv => (hx04).cell (HC.out j v hv)) Try.underlying31 rfl (by rw [cm_info, hlen]) ?_)
      | ((go_at_call 12; (with_reducible refine (putCommit_calls c qa Q qc _ (Hc.out.ext (hy4))).mono ?_); rw [hcg]; rintro e w5 ⟨⟨v5, rfl, own5⟩, hx5⟩); obtain ⟨A5, k5, e5, l5, _, _⟩ := Own.form_at own5 Hn5.out.symm; subst e5))
    obtain ⟨d0, d1, d2, d3⟩ := cm_cells (Hbc.out.ext ((hx04).trans hx5)) HR.out
    have d9 := Cells.head d0 (by rw [HR.out]; decide)
    clear d0 own5
    by_cases hk : (idKind c.root).toNat = 2
    · have hk' : ((idKind c.root).toNat : Int) = 2 := by omega
      rw [show idL c.root = 33 from if_pos hk] at Hcl
      clear hk
      by_cases hm : 63 < c.num
      · rw [if_pos hm] at Hcl
        go_wp2
        go_ret
        exact ⟨by (have hfn := Hcl.out; refine ret_bool ?_; first | exact beq_iff_eq.2 (by omega) | exact (beq_iff_eq.2 (by omega)).symm), (hy4).trans hx5⟩
      · rw [if_neg hm] at Hcl
        go_wp2
        go_ret
        exact ⟨by (have hfn := Hcl.out; refine ret_bool ?_; first | exact beq_iff_eq.2 (by omega) | exact (beq_iff_eq.2 (by omega)).symm), (hy4).trans hx5⟩
    · have hk' : ¬ ((idKind c.root).toNat : Int) = 2 := by omega
      rw [show idL c.root = 9 from if_neg hk] at Hcl
      clear hk
      by_cases hm : 63 < c.num
      · rw [if_pos hm] at Hcl
        go_wp2
        go_ret
        exact ⟨by (have hfn := Hcl.out; refine ret_bool ?_; first | exact beq_iff_eq.2 (by omega) | exact (beq_iff_eq.2 (by omega)).symm), (hy4).trans hx5⟩
      · rw [if_neg hm] at Hcl
        go_wp2
        go_ret
        exact ⟨by (have hfn := Hcl.out; refine ret_bool ?_; first | exact beq_iff_eq.2 (by omega) | exact (beq_iff_eq.2 (by omega)).symm), (hy4).trans hx5⟩
set_option maxRecDepth 100000 in
set_option maxHeartbeats 16000000 in
theorem objectSizes_pairs (t : Tr) (pa ka : Option Addr) (P K pc kc : Nat) (c : Cm) (qa : Option Addr) (Q qc : Nat) (w : World) (h : TrAt w t pa ka P K pc kc) (hc : CmAt w c qa Q qc) (hg : t.good = true) (hK : K = 0) :
    Calls Try.prog 4 #[tra pa P pc ka K kc, cma c qa Q qc] w fun e w' => e = .returned (.bool true) ∧ Ext w w' := by
  subst hK
  have Hsm := Lib.hid (fun (i : Nat) (hi : i < t.pairs.length) => pr_small hg hi)
  have HLEN := Lib.hid (fun k (hk : k ≤ t.pairs.length) => prsB_len hg k hk)
  obtain ⟨n4, hn4⟩ : ∃ n4, n4 = (prsB t P).length := ⟨_, rfl⟩
  have Hfin := Lib.hid (show t.bytes.length = n4 by
    rw [hn4]
    unfold Tr.bytes prsB
    rw [if_pos h.hk, ← h.hp, List.take_length])
  have Hn4 := Lib.hid hn4
  clear hn4
  have hP4 : P ≤ 4 := by have := (tr_parts hg).1; rw [h.hp] at this; exact this
  have Hh := Lib.hid h
  have Hc := Lib.hid hc
  have HR := Lib.hid hc.hr
  have hsn := hc.sn
  have hbq := hc.bq
  have hbp := h.bp
  clear h hc
  go_enter Try.func4, Try.ntmps4
  obtain ⟨w0, hw0⟩ : ∃ w0, w0 = (w.alloc (.cells #[.slice pa P pc, .slice ka 0 kc] 25)).alloc (.cells (cmC c qa Q qc).toArray 31) := ⟨_, rfl⟩
  have hx0 : Ext w w0 := by rw [hw0]; exact ((Ext.refl _).alloc _).alloc _
  have Hbt := Lib.hid (show Blk w0 w.heap.size 25 #[.slice pa P pc, .slice ka 0 kc] from by rw [hw0]; exact (Blk.new w _ _).ext ((Ext.refl _).alloc _))
  have Hbc := Lib.hid (show Blk w0 (w.heap.size + 1) 31 (cmC c qa Q qc).toArray from by rw [hw0]; have e := Blk.new (w.alloc (.cells #[.slice pa P pc, .slice ka 0 kc] 25)) 31 (cmC c qa Q qc).toArray; simpa using e)
  have hlen : (cmC c qa Q qc).length = 36 := by simp [cmC, bv, HR.out]
  go_upto_region 1 with (fail)
  rw [← hw0]
  clear hw0
  have HT := Lib.hid (tree_cells Hbt.out)
  have HC := Lib.hid (show ∀ j v, (cmC c qa Q qc)[j]? = some v → w0.cell? ((⟨w.heap.size + 1, 0, none⟩ : Addr).add j) = some v from fun j v hv => by rw [add_new, Hbc.out.cell, ← Array.getElem?_toList, List.toList_toArray]; exact hv)
  obtain ⟨g, hg1⟩ : ∃ g, g = w.heap.size := ⟨_, rfl⟩
  obtain ⟨c0, c1⟩ := HT.out
  rw [← hg1] at c0 c1 ⊢
  rw [← hg1] at Hbt Hbc HC
  clear HT hg1
  go_upto_region 3 with (go_at_call 8; (with_reducible refine (obj_alive _).mono ?_); rintro e w1 ⟨rfl, hx1⟩; clear c0 c1; obtain ⟨c0, c1⟩ := tree_cells (Hbt.out.ext hx1); have hy1 := hx0.trans hx1)
  go_upto_region 5 with (first
    | (go_at_call 9; (with_reducible refine (greatTree_calls t pa ka P 0 pc kc _ (Hh.out.ext hy1)).mono ?_); rintro e w2 ⟨⟨b, rfl⟩, hx2⟩; have hx02 := hx1.trans hx2; have hy2 := hy1.trans hx2; cases b)
    | (refine wp_load_row_ 31 (.tmp 3) rfl ⟨g + 1, 0, none⟩ rfl (cmC c qa Q qc) _ (fun j v hv => hx02.cell (HC.out j v hv)) Try.underlying31 rfl (by rw [cm_info, hlen]) ?_)
    | (go_at_call 10; (with_reducible refine (greatCommit_calls c qa Q qc _ (Hc.out.ext hy2)).mono ?_); rintro e w3 ⟨⟨b, rfl⟩, hx3⟩; cases b))
  rotate_left
  · go_ret
    exact ⟨rfl, hy2.trans hx3⟩
  · go_ret
    exact ⟨rfl, hy2⟩
  have hy3 := hy2.trans hx3
  have hx03 := hx02.trans hx3
  clear c0 c1
  obtain ⟨c0, c1⟩ := tree_cells (Hbt.out.ext hx03)
  go_wp2_with (go_at_call 11; (with_reducible refine (putTree_calls t pa ka P 0 pc kc _ (Hh.out.ext hy3)).mono ?_); rw [hg]; rintro e w4 ⟨⟨v4, rfl, own4⟩, hx4⟩; clear c0 c1; obtain ⟨c0, c1⟩ := tree_cells (Hbt.out.ext (hx03.trans hx4)); obtain ⟨A4, k4, e4, l4, _, _⟩ := Own.form_at own4 Hfin.out; subst e4)
  have hy4 := hy3.trans hx4
  have hx04 := hx03.trans hx4
  clear c0 c1 own4
  go_loopw [38, 7] (fun i v wr => ∃ (k s : Nat), k ≤ P ∧ i = .int .i64 k ∧ v = .int .i64 s ∧ Hid ((prsB t k).length = s) ∧ Ext w4 wr) (fun i _ _ => P - (intOf i).toNat)
  case atStart => exact ⟨0, 2, Nat.zero_le _, rfl, rfl, Lib.hid (by simp [prsB]), Ext.refl _⟩
  case round =>
    obtain ⟨k, s, hk, rfl, rfl, Hs, hx⟩ := hrel
    have hyw : Ext w wr := hy4.trans hx
    by_cases hlt : k < P
    · have hkl : k < t.pairs.length := by rw [Hh.out.hp]; exact hlt
      have hsb : s ≤ 1000 := by have := HLEN.out k (by omega); rw [Hs.out] at this; omega
      obtain ⟨x, rfl, r0, r1⟩ := pr_row (Hh.out.cp.ext hyw) hkl
      have hsm := Hsm.out k hkl
      have hsc := prsB_succ t hkl
      obtain ⟨p, hp⟩ : ∃ p, p = t.pairs[k] := ⟨_, rfl⟩
      rw [← hp] at r0 r1 hsm hsc
      obtain ⟨hs1, hs2⟩ := hsm
      have HL := Lib.hid (show (prsB t (k + 1)).length = s + (2 + p.1.size + p.2.size) by rw [hsc, List.length_append, List.length_append, Hs.out, textB_small (by rw [blo_len]; omega), textB_small (by rw [blo_len]; omega), blo_len, blo_len]; omega)
      clear hp hsc
      have hlc : ∀ (j : Nat) (v : Value), (prC p)[j]? = some v → wr.cell? ((x.add (k * 2)).add j) = some v := by
        intro j v hj
        match j, hj with
        | 0, hj => cases hj; exact r0
        | 1, hj => cases hj; exact r1
        | n + 2, hj => cases hj
      go_upto_region 11 with (first
        | (refine wpList_load_row_ rfl 43 (.tmp 40) rfl (x.add (k * 2)) rfl (prC p) _ hlc Try.underlying43 rfl pr_info ?_)
        | (refine wpList_store_blk rfl 43 (.tmp 9) (.tmp 41) rfl rfl wr.heap.size (prC p).toArray rfl rfl _ _ (Blk.new wr _ _) rfl (by kernel_rfl) (prC_one p) ?_; intro w5 hb5 hg5; have hx5 : Ext wr w5 := ((Ext.refl _).alloc _).grown_ hg5 (by simp)))
      clear hlc r0 r1 hg5
      obtain ⟨p0, p1⟩ := pair_cells hb5
      clear hb5
      go_wp2
      go_roundw
      case rel => exact ⟨k + 1, s + (2 + p.1.size + p.2.size), by omega, by go_num, by go_num, HL, hx.trans hx5⟩
      case measure => simp [intOf]; omega
    · obtain rfl : k = P := by omega
      obtain rfl : s = n4 := by rw [← Hs.out, Hn4.out]
      go_upto_region 15 with (fail)
      have hx0r := hx04.trans hx
      cases hcg : c.good with
      | false =>
        go_wp2_with (first
          | (refine wpList_load_row_ rfl 31 (.tmp 3) rfl ⟨g + 1, 0, none⟩ rfl (cmC c qa Q qc) _ (fun j v hv => (hx0r).cell (HC.out j v hv)) Try.underlying31 rfl (by rw [cm_info, hlen]) ?_)
          | (go_at_call 12; (with_reducible refine (putCommit_calls c qa Q qc _ (Hc.out.ext (hyw))).mono ?_); rw [hcg]; rintro e w5 ⟨⟨v5, rfl, own5⟩, hx5⟩))
        go_ret
        exact ⟨rfl, (hyw).trans hx5⟩
      | true =>
        have hcl := cm_len hcg HR.out Hc.out.sq
        have hq2 := (cm_parts hcg).1
        rw [Hc.out.hq] at hq2 hcl
        obtain ⟨n5, hn5⟩ : ∃ n5, n5 = c.bytes.length := ⟨_, rfl⟩
        rw [← hn5] at hcl
        have Hn5 := Lib.hid hn5
        clear hn5
        have Hcl := Lib.hid hcl
        clear hcl
        go_upto_region 16 with (first
          | (refine wpList_load_row_ rfl 31 (.tmp 3) rfl ⟨g + 1, 0, none⟩ rfl (cmC c qa Q qc) _ (fun j v hv => (hx0r).cell (HC.out j v hv)) Try.underlying31 rfl (by rw [cm_info, hlen]) ?_)
          | ((go_at_call 12; (with_reducible refine (putCommit_calls c qa Q qc _ (Hc.out.ext (hyw))).mono ?_); rw [hcg]; rintro e w5 ⟨⟨v5, rfl, own5⟩, hx5⟩); obtain ⟨A5, k5, e5, l5, _, _⟩ := Own.form_at own5 Hn5.out.symm; subst e5))
        obtain ⟨d0, d1, d2, d3⟩ := cm_cells (Hbc.out.ext ((hx0r).trans hx5)) HR.out
        have d9 := Cells.head d0 (by rw [HR.out]; decide)
        clear d0 own5
        by_cases hk : (idKind c.root).toNat = 2
        · have hk' : ((idKind c.root).toNat : Int) = 2 := by omega
          rw [show idL c.root = 33 from if_pos hk] at Hcl
          clear hk
          by_cases hm : 63 < c.num
          · rw [if_pos hm] at Hcl
            go_wp2
            go_ret
            exact ⟨by (have hfn := Hcl.out; refine ret_bool ?_; first | exact beq_iff_eq.2 (by omega) | exact (beq_iff_eq.2 (by omega)).symm), (hyw).trans hx5⟩
          · rw [if_neg hm] at Hcl
            go_wp2
            go_ret
            exact ⟨by (have hfn := Hcl.out; refine ret_bool ?_; first | exact beq_iff_eq.2 (by omega) | exact (beq_iff_eq.2 (by omega)).symm), (hyw).trans hx5⟩
        · have hk' : ¬ ((idKind c.root).toNat : Int) = 2 := by omega
          rw [show idL c.root = 9 from if_neg hk] at Hcl
          clear hk
          by_cases hm : 63 < c.num
          · rw [if_pos hm] at Hcl
            go_wp2
            go_ret
            exact ⟨by (have hfn := Hcl.out; refine ret_bool ?_; first | exact beq_iff_eq.2 (by omega) | exact (beq_iff_eq.2 (by omega)).symm), (hyw).trans hx5⟩
          · rw [if_neg hm] at Hcl
            go_wp2
            go_ret
            exact ⟨by (have hfn := Hcl.out; refine ret_bool ?_; first | exact beq_iff_eq.2 (by omega) | exact (beq_iff_eq.2 (by omega)).symm), (hyw).trans hx5⟩

theorem objectSizes_calls (t : Tr) (pa ka : Option Addr) (P K pc kc : Nat) (c : Cm) (qa : Option Addr) (Q qc : Nat) (w : World) (h : TrAt w t pa ka P K pc kc) (hc : CmAt w c qa Q qc) :
    Calls Try.prog 4 #[tra pa P pc ka K kc, cma c qa Q qc] w fun e w' => e = .returned (.bool true) ∧ Ext w w' := by
  cases hg : t.good with
  | false => exact objectSizes_bad t pa ka P K pc kc c qa Q qc w h hc hg
  | true =>
    rcases Nat.eq_zero_or_pos K with h0 | h0
    · exact objectSizes_pairs t pa ka P K pc kc c qa Q qc w h hc hg h0
    · exact objectSizes_kids t pa ka P K pc kc c qa Q qc w h hc hg h0
end Go.Proofs.Ythepbcomeimcnaa
