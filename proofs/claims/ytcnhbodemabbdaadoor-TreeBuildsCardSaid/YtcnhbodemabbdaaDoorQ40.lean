/- The walk of the reference's Tree, layer 15. Printed by wip/mkobjref.py. -/
import Derived.Test.YtcnhbodemabbdaaDoorQ37
import Derived.Test.YtcnhbodemabbdaaDoorQ39
namespace Go.Proofs.YtcnhbodemabbdaaDoor
open Go.RowKit
set_option linter.unusedVariables false

set_option maxRecDepth 100000 in
set_option maxHeartbeats 8000000 in
theorem rtree_pairs (t : Tr) (pa ka : Option Addr) (P K pc kc : Nat) (w : World) (h : TrAt w t pa ka P K pc kc) (hg : t.good = true) (hK : K = 0) :
    Calls Tryd.prog 38 #[tra pa P pc ka K kc] w fun e w' => e = .returned (.string (bstr t.bytes)) ∧ Ext w w' := by
  subst hK
  have hN : P ≤ 4 := by have := (tr_parts hg).1; rw [h.hp] at this; exact this
  have Hfin := Lib.hid (show t.bytes = prsB t P by unfold Tr.bytes prsB; rw [if_pos h.hk, ← h.hp, List.take_length])
  have HLEN := Lib.hid (fun k (hk : k ≤ t.pairs.length) => prsB_len hg k hk)
  have Hsm := Lib.hid (fun (i : Nat) (hi : i < t.pairs.length) => pr_small hg hi)
  have e8 : IntKind.u8.wrap (P : Int) = (P : Int) := by simp only [IntKind.wrap, IntKind.bits, IntKind.signed]; simp; omega
  have Hh := Lib.hid h
  clear h
  go_enter Tryd.func38, Tryd.ntmps38
  obtain ⟨w0, hw0⟩ : ∃ w0, w0 = w.alloc (.cells #[.slice pa P pc, .slice ka 0 kc] 73) := ⟨_, rfl⟩
  have hx0 : Ext w w0 := by rw [hw0]; exact (Ext.refl _).alloc _
  have Hbt := Lib.hid (show Blk w0 w.heap.size 73 #[.slice pa P pc, .slice ka 0 kc] from by rw [hw0]; exact Blk.new w _ _)
  go_upto_region 1 with (fail)
  rw [← hw0]
  clear hw0
  obtain ⟨c0, c1⟩ := tree_cells Hbt.out
  obtain ⟨g, hg1⟩ : ∃ g, g = w.heap.size := ⟨_, rfl⟩
  rw [← hg1] at c0 c1 Hbt ⊢
  clear hg1
  have hb0 : bv (prsB t 0) = [.int .u8 1, .int .u8 (P : Int)] := by
    have := two_u8 1 P (by omega) (by omega)
    unfold prsB
    rw [Hh.out.hp]
    simpa using this
  have hl0 : (prsB t 0).length = 2 := by simp [prsB]
  have hlit : Own w0.heap.size (w0.alloc (.cells #[.int .u8 1, .int .u8 (P : Int)] 5)) (.slice (some ⟨w0.heap.size, 0, none⟩) 2 2) (prsB t 0) := by
    have := Own.lit (B := w0.heap.size) (w := w0) (prsB t 0) #[.int .u8 1, .int .u8 (P : Int)] (by rw [hb0]) (Nat.le_refl _) (by rw [hl0]; decide)
    rwa [hl0] at this
  have hcv := conv_str (P := Tryd.prog) Tryd.underlying87 Tryd.underlying5 Tryd.underlying9 (c := 2) (bs := prsB t 0) (n := 2) hl0 hlit.cells
  have d0 := fun (o : Obj) => ((Ext.refl w0).alloc o).cell c0
  have d1 := fun (o : Obj) => ((Ext.refl w0).alloc o).cell c1
  have hxl : Ext w0 (w0.alloc (.cells #[.int .u8 1, .int .u8 (P : Int)] 5)) := (Ext.refl _).alloc _
  have z0 : (bstr (prsB t 0)).size ≤ 1000 := by rw [bstr_size, hl0]; decide
  have Z0 := Lib.hid z0
  clear hb0 hl0 hlit z0
  go_wp2
  clear c0 c1 d0 d1 hcv
  go_loopw [22, 3] (fun i v wr => ∃ (k : Nat) (S : ByteArray), k ≤ P ∧ i = .int .i64 k ∧ v = .string S ∧ Hid (S = bstr (prsB t k)) ∧ S.size ≤ 1000 ∧ Ext w0 wr) (fun i _ _ => P - (intOf i).toNat)
  case atStart => exact ⟨0, _, Nat.zero_le _, rfl, rfl, Lib.hid rfl, Z0.out, hxl⟩
  case round =>
    clear hxl Z0
    obtain ⟨k, S, hk, rfl, rfl, HS, hS2, hx⟩ := hrel
    have hyw : Ext w wr := hx0.trans hx
    by_cases hlt : k < P
    · have hkl : k < t.pairs.length := by rw [Hh.out.hp]; exact hlt
      obtain ⟨x, rfl, r0, r1⟩ := pr_row (Hh.out.cp.ext hyw) hkl
      have hlc : ∀ (j : Nat) (v : Value), (prC t.pairs[k])[j]? = some v → wr.cell? ((x.add (k * 2)).add j) = some v := by
        intro j v hj
        match j, hj with
        | 0, hj => cases hj; exact r0
        | 1, hj => cases hj; exact r1
        | n + 2, hj => cases hj
      have hsm := Hsm.out k hkl
      have hsc := prsB_succ t hkl
      have hle := HLEN.out (k + 1) hkl
      obtain ⟨p, hp⟩ : ∃ p, p = t.pairs[k] := ⟨_, rfl⟩
      rw [← hp] at hlc hsm hsc
      clear r0 r1
      obtain ⟨hs1, hs2⟩ := hsm
      have z2 : (bstr (textB (blo p.2))).size ≤ 100 := by rw [bstr_size, textB_small (by rw [blo_len]; omega), blo_len]; omega
      have z1 : (bstr (textB (blo p.1))).size ≤ 100 := by rw [bstr_size, textB_small (by rw [blo_len]; omega), blo_len]; omega
      have z3 : (S ++ bstr (textB (blo p.1))).size ≤ 2000 := by rw [str_append_size]; omega
      have hfin : S ++ bstr (textB (blo p.1)) ++ bstr (textB (blo p.2)) = bstr (prsB t (k + 1)) := by rw [HS.out, bstr_append, bstr_append, hsc]
      have Z4 := Lib.hid (show (S ++ bstr (textB (blo p.1)) ++ bstr (textB (blo p.2))).size ≤ 1000 by rw [hfin, bstr_size]; omega)
      have HFIN := Lib.hid hfin
      clear hp hsc hfin hle
      go_upto_region 6 with (first
        | (refine wpList_load_row_ rfl 65 (.tmp 24) rfl (x.add (k * 2)) rfl (prC p) _ hlc Tryd.underlying65 rfl pr_info ?_)
        | (refine wpList_store_blk rfl 65 (.tmp 5) (.tmp 25) rfl rfl wr.heap.size (prC p).toArray rfl rfl _ _ (Blk.new wr _ _) rfl (by kernel_rfl) (prC_one p) ?_; intro w3 hb3 hg3; have hx3 : Ext wr w3 := ((Ext.refl _).alloc _).grown_ hg3 (by simp)))
      clear hlc hg3
      obtain ⟨g6, hg6⟩ : ∃ g, g = wr.heap.size := ⟨_, rfl⟩
      rw [← hg6] at hb3 ⊢
      have HB6 := Lib.hid hb3
      clear hg6 hb3
      refine wp_region_opsL (FInv [26, 27, 28, 29, 30, 31, 32, 33, 34] _ w3.drew [⟨0, none, 26, .val (.string S)⟩, ⟨1, none, 27, .val (.pointer (some ⟨g6, 0, none⟩))⟩, ⟨2, none, 28, .val (.string p.1)⟩, ⟨3, none, 29, .val (.string (bstr (textB (blo p.1))))⟩, ⟨4, none, 30, .val (.string (S ++ bstr (textB (blo p.1))))⟩, ⟨5, none, 31, .val (.pointer (some ⟨g6, 1, none⟩))⟩, ⟨6, none, 32, .val (.string p.2)⟩, ⟨7, none, 33, .val (.string (bstr (textB (blo p.2))))⟩, ⟨8, none, 34, .val (.string (S ++ bstr (textB (blo p.1)) ++ bstr (textB (blo p.2))))⟩]) 9 (by kernel_rfl) (by kernel_rfl) rfl (by kernel_rfl) FInv.start ?_ ?_
      · refine ⟨?o0, ?o1, ?o2, ?o3, ?o4, ?o5, ?o6, ?o7, ?o8, trivial⟩
        case o0 =>
          intro f a u h hfi hp hq hcl
          have q3 : a.tmps[3]?.getD undef = .string S := h.agree.att (by decide)
          exact h.yieldG rfl (wanted_none rfl) 26 rfl (by change 26 < 61; decide) rfl _ rfl (by go_simp)
        case o1 =>
          intro f a u h hfi hp hq hcl
          exact h.yieldG rfl (wanted_none rfl) 27 rfl (by change 27 < 61; decide) rfl _ rfl (run_of_sem rfl (by rw [(show a.eval (.tmp 5) = .pointer (some ⟨g6, 0, none⟩) from h.agree.eval (by decide))]; exact f_pair0 _ _))
        case o2 =>
          intro f a u h hfi hp hq hcl
          have hyu : Ext w3 u := ((Ext.refl w3).drew).trans h.ext
          exact h.yieldG rfl (wanted_none rfl) 28 rfl (by change 28 < 61; decide) rfl _ rfl (run_of_sem rfl (by rw [h.at_ 1 rfl (pre_of hp 1 rfl)]; exact ld_str (pair_cells (HB6.out.ext hyu)).1))
        case o3 =>
          intro f a u h hfi hp hq hcl
          exact h.callG rfl (wanted_none rfl) 29 rfl (by change 29 < 61; decide) rfl _ rfl 53 #[.tmp 28] #[9] _ rfl (by kernel_rfl) (by rw [arr1, h.at_ 2 rfl (pre_of hp 2 rfl)]) (refText_calls p.1 u (by omega))
        case o4 =>
          intro f a u h hfi hp hq hcl
          have q26 := h.att 0 rfl (pre_of hp 0 rfl)
          have q29 := h.att 3 rfl (pre_of hp 3 rfl)
          exact h.yieldG rfl (wanted_none rfl) 30 rfl (by change 30 < 61; decide) rfl _ rfl (by go_simp; omega)
        case o5 =>
          intro f a u h hfi hp hq hcl
          exact h.yieldG rfl (wanted_none rfl) 31 rfl (by change 31 < 61; decide) rfl _ rfl (run_of_sem rfl (by rw [(show a.eval (.tmp 5) = .pointer (some ⟨g6, 0, none⟩) from h.agree.eval (by decide))]; exact f_pair1 _ _))
        case o6 =>
          intro f a u h hfi hp hq hcl
          have hyu : Ext w3 u := ((Ext.refl w3).drew).trans h.ext
          exact h.yieldG rfl (wanted_none rfl) 32 rfl (by change 32 < 61; decide) rfl _ rfl (run_of_sem rfl (by rw [h.at_ 5 rfl (pre_of hp 5 rfl)]; exact ld_str (pair_cells (HB6.out.ext hyu)).2))
        case o7 =>
          intro f a u h hfi hp hq hcl
          exact h.callG rfl (wanted_none rfl) 33 rfl (by change 33 < 61; decide) rfl _ rfl 53 #[.tmp 32] #[9] _ rfl (by kernel_rfl) (by rw [arr1, h.at_ 6 rfl (pre_of hp 6 rfl)]) (refText_calls p.2 u (by omega))
        case o8 =>
          intro f a u h hfi hp hq hcl
          have q30 := h.att 4 rfl (pre_of hp 4 rfl)
          have q33 := h.att 7 rfl (pre_of hp 7 rfl)
          exact h.yieldG rfl (wanted_none rfl) 34 rfl (by change 34 < 61; decide) rfl _ rfl (by go_simp; omega)
      · intro f a u h hall
        have q34 := h.att 8 rfl (hall 8 (by decide))
        have hyu : Ext w3 u := ((Ext.refl w3).drew).trans h.ext
        refine wpOp_of rfl rfl (wp_yield (v := .string (S ++ bstr (textB (blo p.1)) ++ bstr (textB (blo p.2)))) (w' := u) (by go_simp) ?_)
        have hag := h.agree.out
        simp only [List.foldl_cons, List.foldl_nil, Act.put, List.setIfInBounds_toArray, List.set_cons_zero, List.set_cons_succ] at hag
        clear q34
        generalize a.eval (.tmp 26) = y26 at hag
        generalize a.eval (.tmp 27) = y27 at hag
        generalize a.eval (.tmp 28) = y28 at hag
        generalize a.eval (.tmp 29) = y29 at hag
        generalize a.eval (.tmp 30) = y30 at hag
        generalize a.eval (.tmp 31) = y31 at hag
        generalize a.eval (.tmp 32) = y32 at hag
        generalize a.eval (.tmp 33) = y33 at hag
        generalize a.eval (.tmp 34) = y34 at hag
        clear h hall
        subst hag
        simp only [Act.put, List.setIfInBounds_toArray, List.set_cons_zero, List.set_cons_succ]
        go_wp2
        go_roundw
        case rel => exact ⟨k + 1, _, by omega, by go_num, rfl, HFIN, Z4.out, (hx.trans hx3).trans hyu⟩
        case measure => simp [intOf]; omega
    · obtain rfl : k = P := by omega
      go_wp2
      go_ret
      exact ⟨by rw [Hfin.out, ← HS.out]; rfl, hyw⟩
set_option maxRecDepth 100000 in
set_option maxHeartbeats 8000000 in
theorem rtree_kids (t : Tr) (pa ka : Option Addr) (P K pc kc : Nat) (w : World) (h : TrAt w t pa ka P K pc kc) (hg : t.good = true) (hK : 0 < K) (hP : P = 0) :
    Calls Tryd.prog 38 #[tra pa P pc ka K kc] w fun e w' => e = .returned (.string (bstr t.bytes)) ∧ Ext w w' := by
  subst hP
  have hN : K ≤ 3 := by have := (tr_parts hg).2.1; rw [h.hk] at this; exact this
  have hne : (((K : Int) == 0) : Bool) = false := by rw [beq_eq_false_iff_ne]; omega
  have Hfin := Lib.hid (show t.bytes = kdsB t K by unfold Tr.bytes kdsB; rw [if_neg (by rw [h.hk]; omega), ← h.hk, List.take_length])
  have HLEN := Lib.hid (fun k (hk : k ≤ t.kids.length) => kdsB_len hg (fun q hq => (h.sk q hq).2) k hk)
  have Hsm := Lib.hid (fun (i : Nat) (hi : i < t.kids.length) => kd_small hg hi)
  have e8 : IntKind.u8.wrap (K : Int) = (K : Int) := by simp only [IntKind.wrap, IntKind.bits, IntKind.signed]; simp; omega
  have Hh := Lib.hid h
  clear h
  go_enter Tryd.func38, Tryd.ntmps38
  obtain ⟨w0, hw0⟩ : ∃ w0, w0 = w.alloc (.cells #[.slice pa 0 pc, .slice ka K kc] 73) := ⟨_, rfl⟩
  have hx0 : Ext w w0 := by rw [hw0]; exact (Ext.refl _).alloc _
  have Hbt := Lib.hid (show Blk w0 w.heap.size 73 #[.slice pa 0 pc, .slice ka K kc] from by rw [hw0]; exact Blk.new w _ _)
  go_upto_region 1 with (fail)
  rw [← hw0]
  clear hw0
  obtain ⟨c0, c1⟩ := tree_cells Hbt.out
  obtain ⟨g, hg1⟩ : ∃ g, g = w.heap.size := ⟨_, rfl⟩
  rw [← hg1] at c0 c1 Hbt ⊢
  clear hg1
  have hb0 : bv (kdsB t 0) = [.int .u8 2, .int .u8 (K : Int)] := by
    have := two_u8 2 K (by omega) (by omega)
    unfold kdsB
    rw [Hh.out.hk]
    simpa using this
  have hl0 : (kdsB t 0).length = 2 := by simp [kdsB]
  have hlit : Own w0.heap.size (w0.alloc (.cells #[.int .u8 2, .int .u8 (K : Int)] 5)) (.slice (some ⟨w0.heap.size, 0, none⟩) 2 2) (kdsB t 0) := by
    have := Own.lit (B := w0.heap.size) (w := w0) (kdsB t 0) #[.int .u8 2, .int .u8 (K : Int)] (by rw [hb0]) (Nat.le_refl _) (by rw [hl0]; decide)
    rwa [hl0] at this
  have hcv := conv_str (P := Tryd.prog) Tryd.underlying87 Tryd.underlying5 Tryd.underlying9 (c := 2) (bs := kdsB t 0) (n := 2) hl0 hlit.cells
  have d0 := fun (o : Obj) => ((Ext.refl w0).alloc o).cell c0
  have d1 := fun (o : Obj) => ((Ext.refl w0).alloc o).cell c1
  have hxl : Ext w0 (w0.alloc (.cells #[.int .u8 2, .int .u8 (K : Int)] 5)) := (Ext.refl _).alloc _
  have z0 : (bstr (kdsB t 0)).size ≤ 1000 := by rw [bstr_size, hl0]; decide
  have Z0 := Lib.hid z0
  clear hb0 hl0 hlit z0
  go_wp2
  clear c0 c1 d0 d1 hcv
  go_loopw [46, 6] (fun i v wr => ∃ (k : Nat) (S : ByteArray), k ≤ K ∧ i = .int .i64 k ∧ v = .string S ∧ Hid (S = bstr (kdsB t k)) ∧ S.size ≤ 1000 ∧ Ext w0 wr) (fun i _ _ => K - (intOf i).toNat)
  case atStart => exact ⟨0, _, Nat.zero_le _, rfl, rfl, Lib.hid rfl, Z0.out, hxl⟩
  case round =>
    clear hxl Z0
    obtain ⟨k, S, hk, rfl, rfl, HS, hS2, hx⟩ := hrel
    have hyw : Ext w wr := hx0.trans hx
    by_cases hlt : k < K
    · have hkl : k < t.kids.length := by rw [Hh.out.hk]; exact hlt
      obtain ⟨x, rfl, _, _, hlc⟩ := kd_row (Hh.out.ck.ext hyw) hkl
      have hsm := Hsm.out k hkl
      have hql : (t.kids[k]).2.length = 33 := (Hh.out.sk _ (List.getElem_mem hkl)).2
      have hsc := kdsB_succ t hkl
      have hle := HLEN.out (k + 1) hkl
      obtain ⟨p, hp⟩ : ∃ p, p = t.kids[k] := ⟨_, rfl⟩
      rw [← hp] at hlc hsm hsc hql
      have HQL := Lib.hid hql
      clear hql
      obtain ⟨hs1, _⟩ := hsm
      have HTX := fun w' => rname_calls p.2 w' HQL.out
      unfold idv at HTX
      have z2 : (bstr (idText p.2)).size ≤ 100 := by have := idText_len HQL.out; rw [bstr_size]; omega
      have z1 : (bstr (textB (blo p.1))).size ≤ 100 := by rw [bstr_size, textB_small (by rw [blo_len]; omega), blo_len]; omega
      have z3 : (S ++ bstr (textB (blo p.1))).size ≤ 2000 := by rw [str_append_size]; omega
      have hfin : S ++ bstr (textB (blo p.1)) ++ bstr (idText p.2) = bstr (kdsB t (k + 1)) := by rw [HS.out, bstr_append, bstr_append, hsc]
      have Z4 := Lib.hid (show (S ++ bstr (textB (blo p.1)) ++ bstr (idText p.2)).size ≤ 1000 by rw [hfin, bstr_size]; omega)
      have HFIN := Lib.hid hfin
      clear hp hsc hfin hle
      go_upto_region 13 with (first
        | (refine wpList_load_row_ rfl 77 (.tmp 48) rfl (x.add (k * 34)) rfl (kdC p) _ hlc Tryd.underlying77 rfl (by rw [kd_info, kdC_len HQL.out]) ?_)
        | (refine wpList_store_blk rfl 77 (.tmp 8) (.tmp 49) rfl rfl wr.heap.size (kdC p).toArray rfl rfl _ _ (Blk.new wr _ _) (by rw [List.size_toArray, kdC_len HQL.out]; rfl) (by kernel_rfl) (kdC_one p) ?_; intro w3 hb3 hg3; have hx3 : Ext wr w3 := ((Ext.refl _).alloc _).grown_ hg3 (by simp)))
      clear hlc hg3
      obtain ⟨g6, hg6⟩ : ∃ g, g = wr.heap.size := ⟨_, rfl⟩
      rw [← hg6] at hb3 ⊢
      have HB6 := Lib.hid hb3
      clear hg6 hb3
      refine wp_region_opsL (FInv [50, 51, 52, 53, 54, 55, 56, 57, 58] _ w3.drew [⟨0, none, 50, .val (.string S)⟩, ⟨1, none, 51, .val (.pointer (some ⟨g6, 0, none⟩))⟩, ⟨2, none, 52, .val (.string p.1)⟩, ⟨3, none, 53, .val (.string (bstr (textB (blo p.1))))⟩, ⟨4, none, 54, .val (.string (S ++ bstr (textB (blo p.1))))⟩, ⟨5, none, 55, .val (.pointer (some ⟨g6, 1, none⟩))⟩, ⟨6, none, 56, .val (.agg (bv p.2).toArray)⟩, ⟨7, none, 57, .val (.string (bstr (idText p.2)))⟩, ⟨8, none, 58, .val (.string (S ++ bstr (textB (blo p.1)) ++ bstr (idText p.2)))⟩]) 9 (by kernel_rfl) (by kernel_rfl) rfl (by kernel_rfl) FInv.start ?_ ?_
      · refine ⟨?o0, ?o1, ?o2, ?o3, ?o4, ?o5, ?o6, ?o7, ?o8, trivial⟩
        case o0 =>
          intro f a u h hfi hp hq hcl
          have q6 : a.tmps[6]?.getD undef = .string S := h.agree.att (by decide)
          exact h.yieldG rfl (wanted_none rfl) 50 rfl (by change 50 < 61; decide) rfl _ rfl (by go_simp)
        case o1 =>
          intro f a u h hfi hp hq hcl
          exact h.yieldG rfl (wanted_none rfl) 51 rfl (by change 51 < 61; decide) rfl _ rfl (run_of_sem rfl (by rw [(show a.eval (.tmp 8) = .pointer (some ⟨g6, 0, none⟩) from h.agree.eval (by decide))]; exact f_kid0 _ _))
        case o2 =>
          intro f a u h hfi hp hq hcl
          have hyu : Ext w3 u := ((Ext.refl w3).drew).trans h.ext
          exact h.yieldG rfl (wanted_none rfl) 52 rfl (by change 52 < 61; decide) rfl _ rfl (run_of_sem rfl (by rw [h.at_ 1 rfl (pre_of hp 1 rfl)]; exact ld_str (kid_cells (HB6.out.ext hyu)).1))
        case o3 =>
          intro f a u h hfi hp hq hcl
          exact h.callG rfl (wanted_none rfl) 53 rfl (by change 53 < 61; decide) rfl _ rfl 53 #[.tmp 52] #[9] _ rfl (by kernel_rfl) (by rw [arr1, h.at_ 2 rfl (pre_of hp 2 rfl)]) (refText_calls p.1 u (by omega))
        case o4 =>
          intro f a u h hfi hp hq hcl
          have q50 := h.att 0 rfl (pre_of hp 0 rfl)
          have q53 := h.att 3 rfl (pre_of hp 3 rfl)
          exact h.yieldG rfl (wanted_none rfl) 54 rfl (by change 54 < 61; decide) rfl _ rfl (by go_simp; omega)
        case o5 =>
          intro f a u h hfi hp hq hcl
          exact h.yieldG rfl (wanted_none rfl) 55 rfl (by change 55 < 61; decide) rfl _ rfl (run_of_sem rfl (by rw [(show a.eval (.tmp 8) = .pointer (some ⟨g6, 0, none⟩) from h.agree.eval (by decide))]; exact f_kid1 _ _))
        case o6 =>
          intro f a u h hfi hp hq hcl
          have hyu : Ext w3 u := ((Ext.refl w3).drew).trans h.ext
          exact h.yieldG rfl (wanted_none rfl) 56 rfl (by change 56 < 61; decide) rfl _ rfl (run_of_sem rfl (by rw [h.at_ 5 rfl (pre_of hp 5 rfl)]; exact ld_id HQL.out (kid_cells (HB6.out.ext hyu)).2))
        case o7 =>
          intro f a u h hfi hp hq hcl
          exact h.callG rfl (wanted_none rfl) 57 rfl (by change 57 < 61; decide) rfl _ rfl 54 #[.tmp 56] #[27] _ rfl (by kernel_rfl) (by rw [arr1, h.at_ 6 rfl (pre_of hp 6 rfl)]) (HTX u)
        case o8 =>
          intro f a u h hfi hp hq hcl
          have q54 := h.att 4 rfl (pre_of hp 4 rfl)
          have q57 := h.att 7 rfl (pre_of hp 7 rfl)
          exact h.yieldG rfl (wanted_none rfl) 58 rfl (by change 58 < 61; decide) rfl _ rfl (by go_simp; omega)
      · intro f a u h hall
        have q58 := h.att 8 rfl (hall 8 (by decide))
        have hyu : Ext w3 u := ((Ext.refl w3).drew).trans h.ext
        refine wpOp_of rfl rfl (wp_yield (v := .string (S ++ bstr (textB (blo p.1)) ++ bstr (idText p.2))) (w' := u) (by go_simp) ?_)
        have hag := h.agree.out
        simp only [List.foldl_cons, List.foldl_nil, Act.put, List.setIfInBounds_toArray, List.set_cons_zero, List.set_cons_succ] at hag
        clear q58
        generalize a.eval (.tmp 50) = y50 at hag
        generalize a.eval (.tmp 51) = y51 at hag
        generalize a.eval (.tmp 52) = y52 at hag
        generalize a.eval (.tmp 53) = y53 at hag
        generalize a.eval (.tmp 54) = y54 at hag
        generalize a.eval (.tmp 55) = y55 at hag
        generalize a.eval (.tmp 56) = y56 at hag
        generalize a.eval (.tmp 57) = y57 at hag
        generalize a.eval (.tmp 58) = y58 at hag
        clear h hall
        subst hag
        simp only [Act.put, List.setIfInBounds_toArray, List.set_cons_zero, List.set_cons_succ]
        go_wp2
        go_roundw
        case rel => exact ⟨k + 1, _, by omega, by go_num, rfl, HFIN, Z4.out, (hx.trans hx3).trans hyu⟩
        case measure => simp [intOf]; omega
    · obtain rfl : k = K := by omega
      go_wp2
      go_ret
      exact ⟨by rw [Hfin.out, ← HS.out]; rfl, hyw⟩
/-- The reference's Tree, of a tree that can be. -/
theorem rtree_calls (t : Tr) (pa ka : Option Addr) (P K pc kc : Nat) (w : World) (h : TrAt w t pa ka P K pc kc) (hg : t.good = true) :
    Calls Tryd.prog 38 #[tra pa P pc ka K kc] w fun e w' => e = .returned (.string (bstr t.bytes)) ∧ Ext w w' := by
  rcases Nat.eq_zero_or_pos K with h0 | h0
  · exact rtree_pairs t pa ka P K pc kc w h hg h0
  · have : P = 0 := by have := (tr_parts hg).2.2.1; rw [h.hp, h.hk] at this; omega
    exact rtree_kids t pa ka P K pc kc w h hg h0 this
end Go.Proofs.YtcnhbodemabbdaaDoor
