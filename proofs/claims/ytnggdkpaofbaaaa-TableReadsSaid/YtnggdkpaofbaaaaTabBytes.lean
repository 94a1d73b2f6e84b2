/- table.Bytes: what it answers. Printed by wip/mktabbytes.py. -/
import Derived.Test.YtnggdkpaofbaaaaTabGreat
import Derived.Test.YtnggdkpaofbaaaaTabMany
import Derived.Test.YtnggdkpaofbaaaaFramePut
import Derived.Test.YtnggdkpaofbaaaaRowFacts
namespace Go.Proofs.Ytnggdkpaofbaaaa
open Go.RowKit Go.Shelf
set_option linter.unusedVariables false

abbrev AllC (pv : Value) (l : List W3) (n : Nat) (u : World) : Prop := Calls Try.prog 20 #[pv] u fun e w' => ∃ A c, e = .returned (.slice A n c) ∧ Row w' A 3 (l.map wC) ∧ Ext u w'
theorem row_nil (w : World) (A : Option Addr) : Row w A 3 (([] : List W3).map wC) := row_of_cells (fun i v h => by simp at h)
theorem allNil_calls (u : World) : AllC (.pointer none) [] 0 u := by
  go_enter Try.func20, Try.ntmps20
  go_wp2
  go_ret
  exact ⟨none, 0, rfl, row_nil _ _, Ext.refl _⟩
theorem rows_len {l : List W3} (hl : plN l ≤ 1000000) (k : Nat) : (uintB l.length ++ wrsB (l.take k)).length ≤ 22000010 := by
  have h1 : plN (l.take k) ≤ plN l := by
    have h := plN_append (l.take k) (l.drop k)
    rw [List.take_append_drop] at h
    omega
  have h2 := wrsN_le (l.take k) (by omega)
  have h3 := plN_len (l.take k)
  have h4 := plN_len l
  have h5 := sizeN_64 (n := l.length) (by omega)
  unfold sizeN at h5
  rw [List.length_append, wrsB_len]
  omega
set_option maxRecDepth 100000 in
set_option maxHeartbeats 16000000 in
theorem bytes_calls (pv : Value) (l : List W3) (n : Nat) (hn : l.length = n) (w : World) (hall : ∀ u, Ext w u → AllC pv l n u) (hl : plN l ≤ 1000000) :
    Calls Try.prog 12 #[pv] w fun e w' => ∃ v, e = .returned v ∧ Own w.heap.size w' v (tbB l) ∧ Ext w w' := by
  have hn1 : n ≤ 1000000 := by have := plN_len l; omega
  have HAll := Lib.hid hall
  have HN := Lib.hid hn
  have HLEN := Lib.hid (rows_len hl)
  have HPL := Lib.hid (fun (x : W3) (hx : x ∈ l) => Nat.le_trans (plN_mem hx) hl)
  have HTB : Hid (tbB l = fr (uintB n ++ wrsB l)) := Lib.hid (by unfold tbB rowB; rw [hn])
  clear hall hn hl
  go_enter Try.func12, Try.ntmps12
  go_upto_region 3 with (first
    | (go_at_call 20; (with_reducible refine Calls.mono (HAll.out w (Ext.refl _)) ?_); rintro e w1 ⟨A1, c1, rfl, r1, hx1⟩; clear r1)
    | (go_at_call 32; (with_reducible refine Calls.mono (uint_calls none 0 0 [] n w1 (Cells.nil _ _) rfl (Nat.le_refl _) (by omega) (by omega)) ?_); rintro e w2 ⟨v2, rfl, ho2, hx2⟩; have HO2 := Lib.hid ho2; have hx12 := hx1.trans hx2; clear ho2)
    | (go_at_call 20; (with_reducible refine Calls.mono (HAll.out w2 hx12) ?_); rintro e w3 ⟨A3, c3, rfl, r3, hx3⟩; have HR := Lib.hid r3; clear r3))
  have hx03 := hx12.trans hx3
  have HO3 : Hid (Own w.heap.size w3 v2 (uintB n)) := Lib.hid ((HO2.out.lower hx1.size).ext hx3)
  clear HO2 HAll hx12 hx3 hx2 hx1
  go_loopw [15, 3] (fun i u wr => ∃ (k : Nat) (u' : Value), k ≤ n ∧ i = .int .i64 k ∧ u = u' ∧ Hid (Own w.heap.size wr u' (uintB n ++ wrsB (l.take k))) ∧ Ext w3 wr) (fun i _ _ => n - (intOf i).toNat)
  case atStart => exact ⟨0, v2, Nat.zero_le _, rfl, rfl, Lib.hid (by rw [List.take_zero, show wrsB [] = [] from rfl, List.append_nil]; exact HO3.out), Ext.refl _⟩
  case round =>
    obtain ⟨k, u', hk, rfl, rfl, HO, hx⟩ := hrel
    obtain ⟨A5, c5, rfl, hc5, _, hcells5⟩ := HO.out.form
    by_cases hlt : k < n
    · have hkl : k < l.length := by rw [HN.out]; exact hlt
      obtain ⟨ad, rfl, hlc0⟩ := HR.out.get (i := k) (by simpa using hkl)
      rw [List.getElem_map] at hlc0
      obtain ⟨x, hxe⟩ : ∃ x, l[k]? = some x := ⟨_, List.getElem?_eq_getElem hkl⟩
      rw [(List.getElem?_eq_some_iff.1 hxe).2] at hlc0
      have hlc : ∀ (a : Nat) (v : Value), (wC x)[a]? = some v → wr.cell? ((ad.add (k * 3)).add a) = some v := fun a v hv => hx.cell (hlc0 a v hv)
      have htk : uintB n ++ wrsB (l.take (k + 1)) = (uintB n ++ wrsB (l.take k)) ++ wrB x := by rw [List.take_add_one, hxe, show (some x).toList = [x] from rfl, wrsB_snoc, List.append_assoc]
      obtain ⟨hz0, hz1⟩ : x.1.size ≤ 1000000 ∧ x.2.1.size ≤ 1000000 := by have := HPL.out x (List.mem_of_getElem? hxe); omega
      have hLl := HLEN.out k
      rw [HN.out] at hLl
      obtain ⟨L, hL⟩ : ∃ L, L = uintB n ++ wrsB (l.take k) := ⟨_, rfl⟩
      rw [← hL] at htk hLl hc5 hcells5 ⊢
      obtain ⟨nL, hnL⟩ : ∃ x, L.length = x := ⟨_, rfl⟩
      rw [hnL] at hLl hc5 ⊢
      have HNL := Lib.hid hnL
      have HTK := Lib.hid htk
      have HC5r := Lib.hid hcells5
      clear hlc0 htk hxe hkl hL hnL hcells5 HO
      have hp0 : (0 : Int) ≤ (k : Int) := by omega
      have hp1 : (k : Int) < (n : Int) := by omega
      go_upto_region 5 with (first
        | (refine wpList_load_row_ rfl 46 (.tmp 17) rfl (ad.add (k * 3)) rfl (wC x) _ hlc Try.underlying46 rfl (by rw [w_info]; rfl) ?_)
        | (refine wpList_store_blk rfl 46 (.tmp 5) (.tmp 18) rfl rfl wr.heap.size (wC x).toArray rfl rfl _ _ (Blk.new wr _ _) rfl (by kernel_rfl) (wC_one x) ?_; intro w4 hb3 hg3; have hx4 : Ext wr w4 := ((Ext.refl _).alloc _).grown_ hg3 (by simp)))
      obtain ⟨q, hq⟩ : ∃ q, q = wr.heap.size := ⟨_, rfl⟩
      rw [← hq] at hb3 ⊢
      have HC5 := Lib.hid (HC5r.out.ext hx4)
      have hx63 := hx.trans hx4
      have hw3 : w.heap.size ≤ w4.heap.size := Nat.le_trans hx03.size hx63.size
      obtain ⟨x0, x1, x2⟩ := x
      have HB3 := Lib.hid hb3
      have hc2 : w4.cell? ⟨q, 2, none⟩ = some (.bool x2) := by rw [HB3.out.cell]; rfl
      have hz0' : x0.size ≤ 1000000 := hz0
      have hz1' : x1.size ≤ 1000000 := hz1
      clear hlc hg3 hb3 hq hx4 hx HC5r hz0 hz1
      cases x2
      · go_upto_region 8 with (fail)
        clear hc2
        refine wp_region_opsL (FInv [21, 22, 23, 24, 25, 26, 27, 28, 29] _ w4.drew [⟨0, none, 21, .val (.slice A5 nL c5)⟩, ⟨1, none, 22, .val (.int .u64 0)⟩, ⟨2, none, 23, .own (L ++ uintB 0)⟩, ⟨3, none, 24, .val (.pointer (some ⟨q, 0, none⟩))⟩, ⟨4, none, 25, .val (.string x0)⟩, ⟨5, none, 26, .own ((L ++ uintB 0) ++ textB x0.data.toList)⟩, ⟨6, none, 27, .val (.pointer (some ⟨q, 1, none⟩))⟩, ⟨7, none, 28, .val (.string x1)⟩, ⟨8, none, 29, .own (((L ++ uintB 0) ++ textB x0.data.toList) ++ textB x1.data.toList)⟩]) 9 (by kernel_rfl) (by kernel_rfl) rfl rfl FInv.start ?_ ?_
        · refine ⟨?o0, ?o1, ?o2, ?o3, ?o4, ?o5, ?o6, ?o7, ?o8, trivial⟩
          case o0 =>
            intro f a u h hfi hp hq hcl
            have q3 : a.tmps[3]?.getD undef = .slice A5 nL c5 := h.agree.att (by decide)
            exact h.yieldG rfl (wanted_none rfl) 21 rfl (by change 21 < 34; decide) rfl _ rfl (by go_simp)
          case o1 =>
            intro f a u h hfi hp hq hcl
            have q6 : a.tmps[6]?.getD undef = .int .u64 0 := h.agree.att (by decide)
            exact h.yieldG rfl (wanted_none rfl) 22 rfl (by change 22 < 34; decide) rfl _ rfl (by go_simp)
          case o2 =>
            intro f a u h hfi hp hq hcl
            have hyu : Ext w4 u := ((Ext.refl w4).drew).trans h.ext
            exact h.callO rfl (wanted_none rfl) 23 rfl (by change 23 < 34; decide) rfl none _ rfl 32 #[.tmp 21, .tmp 22] #[31, 23] _ rfl (by kernel_rfl) (by rw [arr2, h.at_ 0 rfl (pre_of hp 0 rfl), h.at_ 1 rfl (pre_of hp 1 rfl), show ((0 : Nat) : Int) = 0 from rfl]) (uint_calls A5 nL c5 L 0 u (HC5.out.ext hyu) HNL.out hc5 (by omega) (by decide))
          case o3 =>
            intro f a u h hfi hp hq hcl
            have hyu : Ext w4 u := ((Ext.refl w4).drew).trans h.ext
            have z := (HB3.out.ext hyu).cell 0
            have q5 : a.tmps[5]?.getD undef = .pointer (some ⟨q, 0, none⟩) := h.agree.att (by decide)
            exact h.yieldG rfl (wanted_none rfl) 24 rfl (by change 24 < 34; decide) rfl _ rfl (by go_simp)
          case o4 =>
            intro f a u h hfi hp hq hcl
            have hyu : Ext w4 u := ((Ext.refl w4).drew).trans h.ext
            have z : u.cell? ⟨q, 0, none⟩ = some (.string x0) := by rw [(HB3.out.ext hyu).cell 0]; rfl
            have q24 := h.att 3 rfl (pre_of hp 3 rfl)
            exact h.yieldG rfl (wanted_none rfl) 25 rfl (by change 25 < 34; decide) rfl _ rfl (by go_simp)
          case o5 =>
            intro f a u h hfi hp hq hcl
            obtain ⟨A1, c1, e1, l1, _, hc1⟩ := (h.own 2 rfl (pre_of hp 2 rfl) (fun d hd => by cases hd)).form
            have hu1 := sizeN_64 (n := 0) (by decide)
            unfold sizeN at hu1
            exact h.callO rfl (wanted_none rfl) 26 rfl (by change 26 < 34; decide) rfl none _ rfl 33 #[.tmp 23, .tmp 25] #[31, 9] _ rfl (by kernel_rfl) (by rw [arr2, e1, h.at_ 4 rfl (pre_of hp 4 rfl)]) (text_calls A1 _ c1 (L ++ uintB 0) x0 u hc1 rfl l1 (by rw [List.length_append, HNL.out]; omega))
          case o6 =>
            intro f a u h hfi hp hq hcl
            have hyu : Ext w4 u := ((Ext.refl w4).drew).trans h.ext
            have z := (HB3.out.ext hyu).cell 1
            have q5 : a.tmps[5]?.getD undef = .pointer (some ⟨q, 0, none⟩) := h.agree.att (by decide)
            exact h.yieldG rfl (wanted_none rfl) 27 rfl (by change 27 < 34; decide) rfl _ rfl (by go_simp)
          case o7 =>
            intro f a u h hfi hp hq hcl
            have hyu : Ext w4 u := ((Ext.refl w4).drew).trans h.ext
            have z : u.cell? ⟨q, 1, none⟩ = some (.string x1) := by rw [(HB3.out.ext hyu).cell 1]; rfl
            have q27 := h.att 6 rfl (pre_of hp 6 rfl)
            exact h.yieldG rfl (wanted_none rfl) 28 rfl (by change 28 < 34; decide) rfl _ rfl (by go_simp)
          case o8 =>
            intro f a u h hfi hp hq hcl
            obtain ⟨A1, c1, e1, l1, _, hc1⟩ := (h.own 5 rfl (pre_of hp 5 rfl) (fun d hd => by cases hd)).form
            have hu1 := sizeN_64 (n := 0) (by decide)
            have hu2 := sizeN_64 (n := x0.size) (by omega)
            unfold sizeN at hu1 hu2
            exact h.callO rfl (wanted_none rfl) 29 rfl (by change 29 < 34; decide) rfl none _ rfl 33 #[.tmp 26, .tmp 28] #[31, 9] _ rfl (by kernel_rfl) (by rw [arr2, e1, h.at_ 7 rfl (pre_of hp 7 rfl)]) (text_calls A1 _ c1 ((L ++ uintB 0) ++ textB x0.data.toList) x1 u hc1 rfl l1 (by rw [List.length_append, List.length_append, HNL.out, textB_len, str_len]; unfold sizeN; omega))
        · intro f a u h hall
          have hyu : Ext w4 u := ((Ext.refl w4).drew).trans h.ext
          have ho9 := h.own 8 rfl (hall 8 (by decide)) (fun d hd => by cases hd)
          refine wpOp_of rfl rfl (wp_yield (v := a.eval (.tmp 29)) (w' := u) (by go_simp) ?_)
          obtain ⟨v9, hv9⟩ : ∃ v9, v9 = a.eval (.tmp 29) := ⟨_, rfl⟩
          rw [← hv9] at ho9 ⊢
          clear hv9
          have hag := h.agree.out
          simp only [List.foldl_cons, List.foldl_nil, Act.put, List.setIfInBounds_toArray, List.set_cons_zero, List.set_cons_succ] at hag
          generalize a.eval (.tmp 21) = y21 at hag
          generalize a.eval (.tmp 22) = y22 at hag
          generalize a.eval (.tmp 23) = y23 at hag
          generalize a.eval (.tmp 24) = y24 at hag
          generalize a.eval (.tmp 25) = y25 at hag
          generalize a.eval (.tmp 26) = y26 at hag
          generalize a.eval (.tmp 27) = y27 at hag
          generalize a.eval (.tmp 28) = y28 at hag
          generalize a.eval (.tmp 29) = y29 at hag
          clear h hall
          subst hag
          simp only [Act.put, List.setIfInBounds_toArray, List.set_cons_zero, List.set_cons_succ]
          have ho9' : Own w.heap.size u v9 (uintB n ++ wrsB (l.take (k + 1))) := by
            have e := HTK.out
            rw [show wrB (x0, x1, false) = uintB 0 ++ (textB x0.data.toList ++ textB x1.data.toList) from rfl, ← List.append_assoc, ← List.append_assoc] at e
            rw [e]
            exact ho9.lower hw3
          have HO9 := Lib.hid ho9'
          have hxu := hx63.trans hyu
          clear ho9 ho9'
          go_wp2
          go_roundw
          case rel => exact ⟨k + 1, _, by omega, by go_num, rfl, HO9, hxu⟩
          case measure => simp [intOf]; omega
      · go_upto_region 8 with (fail)
        clear hc2
        refine wp_region_opsL (FInv [21, 22, 23, 24, 25, 26, 27, 28, 29] _ w4.drew [⟨0, none, 21, .val (.slice A5 nL c5)⟩, ⟨1, none, 22, .val (.int .u64 1)⟩, ⟨2, none, 23, .own (L ++ uintB 1)⟩, ⟨3, none, 24, .val (.pointer (some ⟨q, 0, none⟩))⟩, ⟨4, none, 25, .val (.string x0)⟩, ⟨5, none, 26, .own ((L ++ uintB 1) ++ textB x0.data.toList)⟩, ⟨6, none, 27, .val (.pointer (some ⟨q, 1, none⟩))⟩, ⟨7, none, 28, .val (.string x1)⟩, ⟨8, none, 29, .own (((L ++ uintB 1) ++ textB x0.data.toList) ++ textB x1.data.toList)⟩]) 9 (by kernel_rfl) (by kernel_rfl) rfl rfl FInv.start ?_ ?_
        · refine ⟨?o0, ?o1, ?o2, ?o3, ?o4, ?o5, ?o6, ?o7, ?o8, trivial⟩
          case o0 =>
            intro f a u h hfi hp hq hcl
            have q3 : a.tmps[3]?.getD undef = .slice A5 nL c5 := h.agree.att (by decide)
            exact h.yieldG rfl (wanted_none rfl) 21 rfl (by change 21 < 34; decide) rfl _ rfl (by go_simp)
          case o1 =>
            intro f a u h hfi hp hq hcl
            have q6 : a.tmps[6]?.getD undef = .int .u64 1 := h.agree.att (by decide)
            exact h.yieldG rfl (wanted_none rfl) 22 rfl (by change 22 < 34; decide) rfl _ rfl (by go_simp)
          case o2 =>
            intro f a u h hfi hp hq hcl
            have hyu : Ext w4 u := ((Ext.refl w4).drew).trans h.ext
            exact h.callO rfl (wanted_none rfl) 23 rfl (by change 23 < 34; decide) rfl none _ rfl 32 #[.tmp 21, .tmp 22] #[31, 23] _ rfl (by kernel_rfl) (by rw [arr2, h.at_ 0 rfl (pre_of hp 0 rfl), h.at_ 1 rfl (pre_of hp 1 rfl), show ((1 : Nat) : Int) = 1 from rfl]) (uint_calls A5 nL c5 L 1 u (HC5.out.ext hyu) HNL.out hc5 (by omega) (by decide))
          case o3 =>
            intro f a u h hfi hp hq hcl
            have hyu : Ext w4 u := ((Ext.refl w4).drew).trans h.ext
            have z := (HB3.out.ext hyu).cell 0
            have q5 : a.tmps[5]?.getD undef = .pointer (some ⟨q, 0, none⟩) := h.agree.att (by decide)
            exact h.yieldG rfl (wanted_none rfl) 24 rfl (by change 24 < 34; decide) rfl _ rfl (by go_simp)
          case o4 =>
            intro f a u h hfi hp hq hcl
            have hyu : Ext w4 u := ((Ext.refl w4).drew).trans h.ext
            have z : u.cell? ⟨q, 0, none⟩ = some (.string x0) := by rw [(HB3.out.ext hyu).cell 0]; rfl
            have q24 := h.att 3 rfl (pre_of hp 3 rfl)
            exact h.yieldG rfl (wanted_none rfl) 25 rfl (by change 25 < 34; decide) rfl _ rfl (by go_simp)
          case o5 =>
            intro f a u h hfi hp hq hcl
            obtain ⟨A1, c1, e1, l1, _, hc1⟩ := (h.own 2 rfl (pre_of hp 2 rfl) (fun d hd => by cases hd)).form
            have hu1 := sizeN_64 (n := 1) (by decide)
            unfold sizeN at hu1
            exact h.callO rfl (wanted_none rfl) 26 rfl (by change 26 < 34; decide) rfl none _ rfl 33 #[.tmp 23, .tmp 25] #[31, 9] _ rfl (by kernel_rfl) (by rw [arr2, e1, h.at_ 4 rfl (pre_of hp 4 rfl)]) (text_calls A1 _ c1 (L ++ uintB 1) x0 u hc1 rfl l1 (by rw [List.length_append, HNL.out]; omega))
          case o6 =>
            intro f a u h hfi hp hq hcl
            have hyu : Ext w4 u := ((Ext.refl w4).drew).trans h.ext
            have z := (HB3.out.ext hyu).cell 1
            have q5 : a.tmps[5]?.getD undef = .pointer (some ⟨q, 0, none⟩) := h.agree.att (by decide)
            exact h.yieldG rfl (wanted_none rfl) 27 rfl (by change 27 < 34; decide) rfl _ rfl (by go_simp)
          case o7 =>
            intro f a u h hfi hp hq hcl
            have hyu : Ext w4 u := ((Ext.refl w4).drew).trans h.ext
            have z : u.cell? ⟨q, 1, none⟩ = some (.string x1) := by rw [(HB3.out.ext hyu).cell 1]; rfl
            have q27 := h.att 6 rfl (pre_of hp 6 rfl)
            exact h.yieldG rfl (wanted_none rfl) 28 rfl (by change 28 < 34; decide) rfl _ rfl (by go_simp)
          case o8 =>
            intro f a u h hfi hp hq hcl
            obtain ⟨A1, c1, e1, l1, _, hc1⟩ := (h.own 5 rfl (pre_of hp 5 rfl) (fun d hd => by cases hd)).form
            have hu1 := sizeN_64 (n := 1) (by decide)
            have hu2 := sizeN_64 (n := x0.size) (by omega)
            unfold sizeN at hu1 hu2
            exact h.callO rfl (wanted_none rfl) 29 rfl (by change 29 < 34; decide) rfl none _ rfl 33 #[.tmp 26, .tmp 28] #[31, 9] _ rfl (by kernel_rfl) (by rw [arr2, e1, h.at_ 7 rfl (pre_of hp 7 rfl)]) (text_calls A1 _ c1 ((L ++ uintB 1) ++ textB x0.data.toList) x1 u hc1 rfl l1 (by rw [List.length_append, List.length_append, HNL.out, textB_len, str_len]; unfold sizeN; omega))
        · intro f a u h hall
          have hyu : Ext w4 u := ((Ext.refl w4).drew).trans h.ext
          have ho9 := h.own 8 rfl (hall 8 (by decide)) (fun d hd => by cases hd)
          refine wpOp_of rfl rfl (wp_yield (v := a.eval (.tmp 29)) (w' := u) (by go_simp) ?_)
          obtain ⟨v9, hv9⟩ : ∃ v9, v9 = a.eval (.tmp 29) := ⟨_, rfl⟩
          rw [← hv9] at ho9 ⊢
          clear hv9
          have hag := h.agree.out
          simp only [List.foldl_cons, List.foldl_nil, Act.put, List.setIfInBounds_toArray, List.set_cons_zero, List.set_cons_succ] at hag
          generalize a.eval (.tmp 21) = y21 at hag
          generalize a.eval (.tmp 22) = y22 at hag
          generalize a.eval (.tmp 23) = y23 at hag
          generalize a.eval (.tmp 24) = y24 at hag
          generalize a.eval (.tmp 25) = y25 at hag
          generalize a.eval (.tmp 26) = y26 at hag
          generalize a.eval (.tmp 27) = y27 at hag
          generalize a.eval (.tmp 28) = y28 at hag
          generalize a.eval (.tmp 29) = y29 at hag
          clear h hall
          subst hag
          simp only [Act.put, List.setIfInBounds_toArray, List.set_cons_zero, List.set_cons_succ]
          have ho9' : Own w.heap.size u v9 (uintB n ++ wrsB (l.take (k + 1))) := by
            have e := HTK.out
            rw [show wrB (x0, x1, true) = uintB 1 ++ (textB x0.data.toList ++ textB x1.data.toList) from rfl, ← List.append_assoc, ← List.append_assoc] at e
            rw [e]
            exact ho9.lower hw3
          have HO9 := Lib.hid ho9'
          have hxu := hx63.trans hyu
          clear ho9 ho9'
          go_wp2
          go_roundw
          case rel => exact ⟨k + 1, _, by omega, by go_num, rfl, HO9, hxu⟩
          case measure => simp [intOf]; omega
    · obtain rfl : n = k := by omega
      have hL : l.take n = l := by rw [← HN.out, List.take_length]
      have hLl := HLEN.out n
      rw [HN.out] at hLl
      rw [hL] at HO hc5 hcells5 hLl ⊢
      obtain ⟨L, hL2⟩ : ∃ L, L = uintB n ++ wrsB l := ⟨_, rfl⟩
      rw [← hL2] at HO hc5 hcells5 hLl ⊢
      have htb := HTB.out
      rw [← hL2] at htb
      have HTB2 := Lib.hid htb
      obtain ⟨nL, hnL⟩ : ∃ x, L.length = x := ⟨_, rfl⟩
      rw [hnL] at hLl hc5 ⊢
      have HNL := Lib.hid hnL
      have HCV := Lib.hid (fun (u : World) (hu : Ext wr u) => conv_str (P := Try.prog) (w := u) Try.underlying31 Try.underlying5 Try.underlying9 (c := c5) (bs := L) (n := nL) hnL (hcells5.ext hu))
      have hcv := HCV.out wr (Ext.refl _)
      have hfp := fput_calls none 0 0 [] (bstr L) wr (Cells.nil _ _) rfl (Nat.le_refl _) (by rw [bstr_size, hnL]; omega)
      rw [bstr_data, List.nil_append, ← htb] at hfp
      have HFP := Lib.hid hfp
      clear hL hL2 hnL htb HTB hfp hcells5 HCV HO
      go_wp2_with (go_at_call 34; (with_reducible refine Calls.mono HFP.out ?_); rintro e w6 ⟨v6, rfl, ho6, hx6⟩)
      go_ret
      exact ⟨_, rfl, ho6.lower (hx03.trans hx).size, (hx03.trans hx).trans hx6⟩
end Go.Proofs.Ytnggdkpaofbaaaa
