/- The reference's bytes of a table. Printed by wip/mktabbytes.py. -/
import Derived.Test.YtnggdkpaofbaaaaTabBytes
namespace Go.Proofs.Ytnggdkpaofbaaaa
open Go.RowKit Go.Shelf
set_option linter.unusedVariables false

set_option maxRecDepth 100000 in
set_option maxHeartbeats 16000000 in
theorem rbytes_calls (l : List W3) (A : Option Addr) (n c : Nat) (w : World) (hr : Row w A 3 (l.map wC)) (hn : l.length = n) (hl : plN l ≤ 1000000) :
    Calls Try.prog 24 #[.slice A n c] w fun e w' => e = .returned (.string (bstr (tbB l))) ∧ Ext w w' := by
  have hn1 : n ≤ 1000000 := by have := plN_len l; omega
  have HR := Lib.hid hr
  have HN := Lib.hid hn
  have HLEN := Lib.hid (rows_len hl)
  have HPL := Lib.hid (fun (x : W3) (hx : x ∈ l) => Nat.le_trans (plN_mem hx) hl)
  have HTB : Hid (tbB l = fr (uintB n ++ wrsB l)) := Lib.hid (by unfold tbB rowB; rw [hn])
  clear hr hn hl
  go_enter Try.func24, Try.ntmps24
  go_upto_region 3 with (go_at_call 46; (with_reducible refine Calls.mono (refUint_calls n w (by omega)) ?_); rintro e w3 ⟨rfl, hx3⟩)
  go_loopw [12, 3] (fun i u wr => ∃ (k : Nat), k ≤ n ∧ i = .int .i64 k ∧ u = .string (bstr (uintB n ++ wrsB (l.take k))) ∧ Ext w wr) (fun i _ _ => n - (intOf i).toNat)
  case atStart => exact ⟨0, Nat.zero_le _, rfl, by rw [List.take_zero, show wrsB [] = [] from rfl, List.append_nil], hx3⟩
  case round =>
    obtain ⟨k, hk, rfl, rfl, hx⟩ := hrel
    by_cases hlt : k < n
    · have hkl : k < l.length := by rw [HN.out]; exact hlt
      obtain ⟨ad, rfl, hlc0⟩ := HR.out.get (i := k) (by simpa using hkl)
      rw [List.getElem_map] at hlc0
      obtain ⟨x, hxe⟩ : ∃ x, l[k]? = some x := ⟨_, List.getElem?_eq_getElem hkl⟩
      rw [(List.getElem?_eq_some_iff.1 hxe).2] at hlc0
      have hlc : ∀ (a : Nat) (v : Value), (wC x)[a]? = some v → wr.cell? ((ad.add (k * 3)).add a) = some v := fun a v hv => hx.cell (hlc0 a v hv)
      have htk : uintB n ++ wrsB (l.take (k + 1)) = (uintB n ++ wrsB (l.take k)) ++ wrB x := by rw [List.take_add_one, hxe, show (some x).toList = [x] from rfl, wrsB_snoc, List.append_assoc]
      obtain ⟨hz0, hz1⟩ : x.1.size ≤ 1000000 ∧ x.2.1.size ≤ 1000000 := by have := HPL.out x (List.mem_of_getElem? hxe); omega
      have hLl := HLEN.out k
      rw [HN.out] at hLl
      obtain ⟨L, hL⟩ : ∃ L, L = uintB n ++ wrsB (l.take k) := ⟨_, rfl⟩
      rw [← hL] at htk hLl ⊢
      have HTK := Lib.hid htk
      have HLL := Lib.hid hLl
      clear hlc0 htk hxe hkl hL hLl
      have hp0 : (0 : Int) ≤ (k : Int) := by omega
      have hp1 : (k : Int) < (n : Int) := by omega
      go_upto_region 5 with (first
        | (refine wpList_load_row_ rfl 46 (.tmp 14) rfl (ad.add (k * 3)) rfl (wC x) _ hlc Try.underlying46 rfl (by rw [w_info]; rfl) ?_)
        | (refine wpList_store_blk rfl 46 (.tmp 5) (.tmp 15) rfl rfl wr.heap.size (wC x).toArray rfl rfl _ _ (Blk.new wr _ _) rfl (by kernel_rfl) (wC_one x) ?_; intro w4 hb3 hg3; have hx4 : Ext wr w4 := ((Ext.refl _).alloc _).grown_ hg3 (by simp)))
      obtain ⟨q, hq⟩ : ∃ q, q = wr.heap.size := ⟨_, rfl⟩
      rw [← hq] at hb3 ⊢
      have hx63 := hx.trans hx4
      obtain ⟨x0, x1, x2⟩ := x
      have HB3 := Lib.hid hb3
      have hc2 : w4.cell? ⟨q, 2, none⟩ = some (.bool x2) := by rw [HB3.out.cell]; rfl
      have hz0' : x0.size ≤ 1000000 := hz0
      have hz1' : x1.size ≤ 1000000 := hz1
      have hzL : (bstr L).size ≤ 22000010 := by rw [bstr_size]; exact HLL.out
      clear hlc hg3 hb3 hq hx4 hx hz0 hz1
      cases x2
      · have hcat : bstr L ++ ({ data := #[0] } : ByteArray) = bstr (L ++ uintB 0) := by
          rw [uintB_lt (by decide), ← bstr_append]
          rfl
        go_upto_region 8 with (fail)
        have hu : (uintB 0).length = 1 := by rw [uintB_lt (by decide)]; rfl
        obtain ⟨s1, hs1⟩ : ∃ s, s = bstr (L ++ uintB 0) := ⟨_, rfl⟩
        obtain ⟨s2, hs2⟩ : ∃ s, s = bstr (textB x0.data.toList) := ⟨_, rfl⟩
        obtain ⟨s3, hs3⟩ : ∃ s, s = s1 ++ s2 := ⟨_, rfl⟩
        obtain ⟨s4, hs4⟩ : ∃ s, s = bstr (textB x1.data.toList) := ⟨_, rfl⟩
        obtain ⟨s5, hs5⟩ : ∃ s, s = s3 ++ s4 := ⟨_, rfl⟩
        rw [← hs1]
        have hz1 : s1.size ≤ 22000011 := by rw [hs1, bstr_size, List.length_append, hu]; have := HLL.out; omega
        have hz2 : s2.size ≤ 1000010 := by rw [hs2, bstr_size, textB_len, str_len]; have := sizeN_64 (n := x0.size) (by omega); omega
        have hz3 : s3.size = s1.size + s2.size := by rw [hs3, ByteArray.size_append]
        have hz4 : s4.size ≤ 1000010 := by rw [hs4, bstr_size, textB_len, str_len]; have := sizeN_64 (n := x1.size) (by omega); omega
        have HS1 : Hid (s1.size + s2.size ≤ 9223372036854775807) := Lib.hid (by omega)
        have HS2 : Hid (s3.size + s4.size ≤ 9223372036854775807) := Lib.hid (by omega)
        have HC1 := Lib.hid hs3.symm
        have HC2 := Lib.hid hs5.symm
        have HE2 := Lib.hid hs2
        have HE4 := Lib.hid hs4
        have HE5 : Hid (s5 = bstr (((L ++ uintB 0) ++ textB x0.data.toList) ++ textB x1.data.toList)) := Lib.hid (by rw [hs5, hs3, hs1, hs2, hs4, bstr_append, bstr_append])
        clear hc2 hcat hzL hu hs1 hs2 hs3 hs4 hs5 hz1 hz2 hz3 hz4
        refine wp_region_opsL (FInv [22, 23, 24, 25, 26, 27, 28, 29, 30] _ w4.drew [⟨0, none, 22, .val (.string s1)⟩, ⟨1, none, 23, .val (.pointer (some ⟨q, 0, none⟩))⟩, ⟨2, none, 24, .val (.string x0)⟩, ⟨3, none, 25, .val (.string s2)⟩, ⟨4, none, 26, .val (.string s3)⟩, ⟨5, none, 27, .val (.pointer (some ⟨q, 1, none⟩))⟩, ⟨6, none, 28, .val (.string x1)⟩, ⟨7, none, 29, .val (.string s4)⟩, ⟨8, none, 30, .val (.string s5)⟩]) 9 (by kernel_rfl) (by kernel_rfl) rfl rfl FInv.start ?_ ?_
        · refine ⟨?o0, ?o1, ?o2, ?o3, ?o4, ?o5, ?o6, ?o7, ?o8, trivial⟩
          case o0 =>
            intro f a u h hfi hp hq hcl
            have q3 : a.tmps[3]?.getD undef = .string s1 := h.agree.att (by decide)
            exact h.yieldG rfl (wanted_none rfl) 22 rfl (by change 22 < 34; decide) rfl _ rfl (by go_simp)
          case o1 =>
            intro f a u h hfi hp hq hcl
            have hyu : Ext w4 u := ((Ext.refl w4).drew).trans h.ext
            have z := (HB3.out.ext hyu).cell 0
            have q5 : a.tmps[5]?.getD undef = .pointer (some ⟨q, 0, none⟩) := h.agree.att (by decide)
            exact h.yieldG rfl (wanted_none rfl) 23 rfl (by change 23 < 34; decide) rfl _ rfl (by go_simp)
          case o2 =>
            intro f a u h hfi hp hq hcl
            have hyu : Ext w4 u := ((Ext.refl w4).drew).trans h.ext
            have z : u.cell? ⟨q, 0, none⟩ = some (.string x0) := by rw [(HB3.out.ext hyu).cell 0]; rfl
            have q23 := h.att 1 rfl (pre_of hp 1 rfl)
            exact h.yieldG rfl (wanted_none rfl) 24 rfl (by change 24 < 34; decide) rfl _ rfl (by go_simp)
          case o3 =>
            intro f a u h hfi hp hq hcl
            exact h.callG rfl (wanted_none rfl) 25 rfl (by change 25 < 34; decide) rfl _ rfl 47 #[.tmp 24] #[9] _ rfl (by kernel_rfl) (by rw [arr1, h.at_ 2 rfl (pre_of hp 2 rfl)]) (by rw [HE2.out]; exact refText_calls x0 u (by omega))
          case o4 =>
            intro f a u h hfi hp hq hcl
            have z1 := HS1.out
            have z2 := HC1.out
            have q22 := h.att 0 rfl (pre_of hp 0 rfl)
            have q25 := h.att 3 rfl (pre_of hp 3 rfl)
            exact h.yieldG rfl (wanted_none rfl) 26 rfl (by change 26 < 34; decide) rfl _ rfl (by go_simp)
          case o5 =>
            intro f a u h hfi hp hq hcl
            have hyu : Ext w4 u := ((Ext.refl w4).drew).trans h.ext
            have z := (HB3.out.ext hyu).cell 1
            have q5 : a.tmps[5]?.getD undef = .pointer (some ⟨q, 0, none⟩) := h.agree.att (by decide)
            exact h.yieldG rfl (wanted_none rfl) 27 rfl (by change 27 < 34; decide) rfl _ rfl (by go_simp)
          case o6 =>
            intro f a u h hfi hp hq hcl
            have hyu : Ext w4 u := ((Ext.refl w4).drew).trans h.ext
            have z : u.cell? ⟨q, 1, none⟩ = some (.string x1) := by rw [(HB3.out.ext hyu).cell 1]; rfl
            have q27 := h.att 5 rfl (pre_of hp 5 rfl)
            exact h.yieldG rfl (wanted_none rfl) 28 rfl (by change 28 < 34; decide) rfl _ rfl (by go_simp)
          case o7 =>
            intro f a u h hfi hp hq hcl
            exact h.callG rfl (wanted_none rfl) 29 rfl (by change 29 < 34; decide) rfl _ rfl 47 #[.tmp 28] #[9] _ rfl (by kernel_rfl) (by rw [arr1, h.at_ 6 rfl (pre_of hp 6 rfl)]) (by rw [HE4.out]; exact refText_calls x1 u (by omega))
          case o8 =>
            intro f a u h hfi hp hq hcl
            have z1 := HS2.out
            have z2 := HC2.out
            have q26 := h.att 4 rfl (pre_of hp 4 rfl)
            have q29 := h.att 7 rfl (pre_of hp 7 rfl)
            exact h.yieldG rfl (wanted_none rfl) 30 rfl (by change 30 < 34; decide) rfl _ rfl (by go_simp)
        · intro f a u h hall
          have hyu : Ext w4 u := ((Ext.refl w4).drew).trans h.ext
          refine wpOp_of rfl rfl (wp_yield (v := .string s5) (w' := u) (by have q30 := h.att 8 rfl (hall 8 (by decide)); go_simp) ?_)
          have hag := h.agree.out
          simp only [List.foldl_cons, List.foldl_nil, Act.put, List.setIfInBounds_toArray, List.set_cons_zero, List.set_cons_succ] at hag
          generalize a.eval (.tmp 22) = y22 at hag
          generalize a.eval (.tmp 23) = y23 at hag
          generalize a.eval (.tmp 24) = y24 at hag
          generalize a.eval (.tmp 25) = y25 at hag
          generalize a.eval (.tmp 26) = y26 at hag
          generalize a.eval (.tmp 27) = y27 at hag
          generalize a.eval (.tmp 28) = y28 at hag
          generalize a.eval (.tmp 29) = y29 at hag
          generalize a.eval (.tmp 30) = y30 at hag
          clear h hall
          subst hag
          simp only [Act.put, List.setIfInBounds_toArray, List.set_cons_zero, List.set_cons_succ]
          have e9 : ((L ++ uintB 0) ++ textB x0.data.toList) ++ textB x1.data.toList = uintB n ++ wrsB (l.take (k + 1)) := by
            have e := HTK.out
            rw [show wrB (x0, x1, false) = uintB 0 ++ (textB x0.data.toList ++ textB x1.data.toList) from rfl, ← List.append_assoc, ← List.append_assoc] at e
            exact e.symm
          have HE9 : Hid (s5 = bstr (uintB n ++ wrsB (l.take (k + 1)))) := Lib.hid (by rw [HE5.out, e9])
          have hxu := hx63.trans hyu
          clear e9 HS1 HS2 HE2 HE4 HE5 HC1 HC2
          go_wp2
          go_roundw
          case rel => exact ⟨k + 1, by omega, by go_num, by rw [HE9.out], hxu⟩
          case measure => simp [intOf]; omega
      · have hcat : bstr L ++ ({ data := #[1] } : ByteArray) = bstr (L ++ uintB 1) := by
          rw [uintB_lt (by decide), ← bstr_append]
          rfl
        go_upto_region 8 with (fail)
        have hu : (uintB 1).length = 1 := by rw [uintB_lt (by decide)]; rfl
        obtain ⟨s1, hs1⟩ : ∃ s, s = bstr (L ++ uintB 1) := ⟨_, rfl⟩
        obtain ⟨s2, hs2⟩ : ∃ s, s = bstr (textB x0.data.toList) := ⟨_, rfl⟩
        obtain ⟨s3, hs3⟩ : ∃ s, s = s1 ++ s2 := ⟨_, rfl⟩
        obtain ⟨s4, hs4⟩ : ∃ s, s = bstr (textB x1.data.toList) := ⟨_, rfl⟩
        obtain ⟨s5, hs5⟩ : ∃ s, s = s3 ++ s4 := ⟨_, rfl⟩
        rw [← hs1]
        have hz1 : s1.size ≤ 22000011 := by rw [hs1, bstr_size, List.length_append, hu]; have := HLL.out; omega
        have hz2 : s2.size ≤ 1000010 := by rw [hs2, bstr_size, textB_len, str_len]; have := sizeN_64 (n := x0.size) (by omega); omega
        have hz3 : s3.size = s1.size + s2.size := by rw [hs3, ByteArray.size_append]
        have hz4 : s4.size ≤ 1000010 := by rw [hs4, bstr_size, textB_len, str_len]; have := sizeN_64 (n := x1.size) (by omega); omega
        have HS1 : Hid (s1.size + s2.size ≤ 9223372036854775807) := Lib.hid (by omega)
        have HS2 : Hid (s3.size + s4.size ≤ 9223372036854775807) := Lib.hid (by omega)
        have HC1 := Lib.hid hs3.symm
        have HC2 := Lib.hid hs5.symm
        have HE2 := Lib.hid hs2
        have HE4 := Lib.hid hs4
        have HE5 : Hid (s5 = bstr (((L ++ uintB 1) ++ textB x0.data.toList) ++ textB x1.data.toList)) := Lib.hid (by rw [hs5, hs3, hs1, hs2, hs4, bstr_append, bstr_append])
        clear hc2 hcat hzL hu hs1 hs2 hs3 hs4 hs5 hz1 hz2 hz3 hz4
        refine wp_region_opsL (FInv [22, 23, 24, 25, 26, 27, 28, 29, 30] _ w4.drew [⟨0, none, 22, .val (.string s1)⟩, ⟨1, none, 23, .val (.pointer (some ⟨q, 0, none⟩))⟩, ⟨2, none, 24, .val (.string x0)⟩, ⟨3, none, 25, .val (.string s2)⟩, ⟨4, none, 26, .val (.string s3)⟩, ⟨5, none, 27, .val (.pointer (some ⟨q, 1, none⟩))⟩, ⟨6, none, 28, .val (.string x1)⟩, ⟨7, none, 29, .val (.string s4)⟩, ⟨8, none, 30, .val (.string s5)⟩]) 9 (by kernel_rfl) (by kernel_rfl) rfl rfl FInv.start ?_ ?_
        · refine ⟨?o0, ?o1, ?o2, ?o3, ?o4, ?o5, ?o6, ?o7, ?o8, trivial⟩
          case o0 =>
            intro f a u h hfi hp hq hcl
            have q3 : a.tmps[3]?.getD undef = .string s1 := h.agree.att (by decide)
            exact h.yieldG rfl (wanted_none rfl) 22 rfl (by change 22 < 34; decide) rfl _ rfl (by go_simp)
          case o1 =>
            intro f a u h hfi hp hq hcl
            have hyu : Ext w4 u := ((Ext.refl w4).drew).trans h.ext
            have z := (HB3.out.ext hyu).cell 0
            have q5 : a.tmps[5]?.getD undef = .pointer (some ⟨q, 0, none⟩) := h.agree.att (by decide)
            exact h.yieldG rfl (wanted_none rfl) 23 rfl (by change 23 < 34; decide) rfl _ rfl (by go_simp)
          case o2 =>
            intro f a u h hfi hp hq hcl
            have hyu : Ext w4 u := ((Ext.refl w4).drew).trans h.ext
            have z : u.cell? ⟨q, 0, none⟩ = some (.string x0) := by rw [(HB3.out.ext hyu).cell 0]; rfl
            have q23 := h.att 1 rfl (pre_of hp 1 rfl)
            exact h.yieldG rfl (wanted_none rfl) 24 rfl (by change 24 < 34; decide) rfl _ rfl (by go_simp)
          case o3 =>
            intro f a u h hfi hp hq hcl
            exact h.callG rfl (wanted_none rfl) 25 rfl (by change 25 < 34; decide) rfl _ rfl 47 #[.tmp 24] #[9] _ rfl (by kernel_rfl) (by rw [arr1, h.at_ 2 rfl (pre_of hp 2 rfl)]) (by rw [HE2.out]; exact refText_calls x0 u (by omega))
          case o4 =>
            intro f a u h hfi hp hq hcl
            have z1 := HS1.out
            have z2 := HC1.out
            have q22 := h.att 0 rfl (pre_of hp 0 rfl)
            have q25 := h.att 3 rfl (pre_of hp 3 rfl)
            exact h.yieldG rfl (wanted_none rfl) 26 rfl (by change 26 < 34; decide) rfl _ rfl (by go_simp)
          case o5 =>
            intro f a u h hfi hp hq hcl
            have hyu : Ext w4 u := ((Ext.refl w4).drew).trans h.ext
            have z := (HB3.out.ext hyu).cell 1
            have q5 : a.tmps[5]?.getD undef = .pointer (some ⟨q, 0, none⟩) := h.agree.att (by decide)
            exact h.yieldG rfl (wanted_none rfl) 27 rfl (by change 27 < 34; decide) rfl _ rfl (by go_simp)
          case o6 =>
            intro f a u h hfi hp hq hcl
            have hyu : Ext w4 u := ((Ext.refl w4).drew).trans h.ext
            have z : u.cell? ⟨q, 1, none⟩ = some (.string x1) := by rw [(HB3.out.ext hyu).cell 1]; rfl
            have q27 := h.att 5 rfl (pre_of hp 5 rfl)
            exact h.yieldG rfl (wanted_none rfl) 28 rfl (by change 28 < 34; decide) rfl _ rfl (by go_simp)
          case o7 =>
            intro f a u h hfi hp hq hcl
            exact h.callG rfl (wanted_none rfl) 29 rfl (by change 29 < 34; decide) rfl _ rfl 47 #[.tmp 28] #[9] _ rfl (by kernel_rfl) (by rw [arr1, h.at_ 6 rfl (pre_of hp 6 rfl)]) (by rw [HE4.out]; exact refText_calls x1 u (by omega))
          case o8 =>
            intro f a u h hfi hp hq hcl
            have z1 := HS2.out
            have z2 := HC2.out
            have q26 := h.att 4 rfl (pre_of hp 4 rfl)
            have q29 := h.att 7 rfl (pre_of hp 7 rfl)
            exact h.yieldG rfl (wanted_none rfl) 30 rfl (by change 30 < 34; decide) rfl _ rfl (by go_simp)
        · intro f a u h hall
          have hyu : Ext w4 u := ((Ext.refl w4).drew).trans h.ext
          refine wpOp_of rfl rfl (wp_yield (v := .string s5) (w' := u) (by have q30 := h.att 8 rfl (hall 8 (by decide)); go_simp) ?_)
          have hag := h.agree.out
          simp only [List.foldl_cons, List.foldl_nil, Act.put, List.setIfInBounds_toArray, List.set_cons_zero, List.set_cons_succ] at hag
          generalize a.eval (.tmp 22) = y22 at hag
          generalize a.eval (.tmp 23) = y23 at hag
          generalize a.eval (.tmp 24) = y24 at hag
          generalize a.eval (.tmp 25) = y25 at hag
          generalize a.eval (.tmp 26) = y26 at hag
          generalize a.eval (.tmp 27) = y27 at hag
          generalize a.eval (.tmp 28) = y28 at hag
          generalize a.eval (.tmp 29) = y29 at hag
          generalize a.eval (.tmp 30) = y30 at hag
          clear h hall
          subst hag
          simp only [Act.put, List.setIfInBounds_toArray, List.set_cons_zero, List.set_cons_succ]
          have e9 : ((L ++ uintB 1) ++ textB x0.data.toList) ++ textB x1.data.toList = uintB n ++ wrsB (l.take (k + 1)) := by
            have e := HTK.out
            rw [show wrB (x0, x1, true) = uintB 1 ++ (textB x0.data.toList ++ textB x1.data.toList) from rfl, ← List.append_assoc, ← List.append_assoc] at e
            exact e.symm
          have HE9 : Hid (s5 = bstr (uintB n ++ wrsB (l.take (k + 1)))) := Lib.hid (by rw [HE5.out, e9])
          have hxu := hx63.trans hyu
          clear e9 HS1 HS2 HE2 HE4 HE5 HC1 HC2
          go_wp2
          go_roundw
          case rel => exact ⟨k + 1, by omega, by go_num, by rw [HE9.out], hxu⟩
          case measure => simp [intOf]; omega
    · obtain rfl : n = k := by omega
      have hL : l.take n = l := by rw [← HN.out, List.take_length]
      have hLl := HLEN.out n
      rw [HN.out] at hLl
      rw [hL] at hLl ⊢
      obtain ⟨L, hL2⟩ : ∃ L, L = uintB n ++ wrsB l := ⟨_, rfl⟩
      rw [← hL2] at hLl ⊢
      have htb := HTB.out
      rw [← hL2] at htb
      have hfp := frframe_calls L wr (by omega)
      rw [← htb] at hfp
      have HFP := Lib.hid hfp
      clear hL hL2 htb HTB hfp
      go_wp2_with (go_at_call 51; (with_reducible refine Calls.mono HFP.out ?_); rintro e w6 ⟨rfl, hx6⟩)
      go_ret
      exact ⟨rfl, hx.trans hx6⟩
end Go.Proofs.Ytnggdkpaofbaaaa
