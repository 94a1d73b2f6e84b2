/- TableSizes: the walk. Printed by wip/mktabsizes.py. -/
import Derived.Test.YtnggdkpaofbaaaaTabBytes
import Derived.Test.YtnggdkpaofbaaaaTabLaw
import Derived.Test.YtnggdkpaofbaaaaOpenTab
namespace Go.Proofs.Ytnggdkpaofbaaaa
open Go.RowKit Go.Shelf
set_option linter.unusedVariables false

set_option maxRecDepth 100000 in
set_option maxHeartbeats 16000000 in
theorem sized_calls (ls : List W3) (A : Option Addr) (n c : Nat) (w : World) (hr : Row w A 3 (ls.map wC)) (hn : ls.length = n) (hl : plN ls ≤ 100000) :
    Calls Try.prog 21 #[.slice A n c] w fun e w' => e = .returned (.int .i64 (tbB (tabOf ls)).length) ∧ Ext w w' := by
  have hn1 : n ≤ 100000 := by have := plN_len ls; omega
  obtain ⟨l, hlt⟩ : ∃ l, l = tabOf ls := ⟨_, rfl⟩
  have hpl : plN l ≤ 100000 := by rw [hlt]; exact Nat.le_trans (plN_tab ls) hl
  have hln : l.length ≤ 100000 := by have := plN_len l; omega
  have HOF := Lib.hid (rof_calls ls A n c w hr hn (by omega))
  rw [← hlt] at HOF ⊢
  have HPL := Lib.hid (fun (x : W3) (hx : x ∈ l) => Nat.le_trans (plN_mem hx) hpl)
  have HW := Lib.hid (fun k => show wrsN (l.take k) ≤ 2200000 by
    have h1 : plN (l.take k) ≤ plN l := by
      have h := plN_append (l.take k) (l.drop k)
      rw [List.take_append_drop] at h
      omega
    have h2 := wrsN_le (l.take k) (by omega)
    have h3 := plN_len (l.take k)
    omega)
  have HTL := Lib.hid (tbB_len l)
  clear hr hn hl hlt hpl hn1
  go_enter Try.func21, Try.ntmps21
  go_upto_region 2 with (go_at_call 22; (with_reducible refine Calls.mono HOF.out ?_); rintro e w1 ⟨v1, rfl, ho1, hx1⟩; obtain ⟨A1, c1, rfl, _, _, hc1⟩ := ho1.form)
  have HR := Lib.hid (row_of_cells hc1)
  obtain ⟨n', hn'⟩ : ∃ x, l.length = x := ⟨_, rfl⟩
  rw [hn'] at HTL hln ⊢
  have HN := Lib.hid hn'
  have hu0 := sizeN_64 (n := n') (by omega)
  unfold sizeN at hu0
  obtain ⟨u0, hu0e⟩ : ∃ x, (uintB n').length = x := ⟨_, rfl⟩
  rw [hu0e] at HTL hu0
  have hbu : (bstr (uintB n')).size = u0 := by rw [bstr_size, hu0e]
  clear hn' ho1 hc1 HOF hu0e
  go_upto_region 4 with (go_at_call 46; (with_reducible refine Calls.mono (refUint_calls n' w1 (by omega)) ?_); rintro e w3 ⟨rfl, hx3'⟩; have hx3 := hx1.trans hx3')
  clear hbu
  go_loopw [16, 4] (fun i v wr => ∃ (k m : Nat), k ≤ n' ∧ i = .int .i64 k ∧ v = .int .i64 m ∧ Hid (m = u0 + wrsN (l.take k)) ∧ Ext w wr ∧ Ext w1 wr) (fun i _ _ => n' - (intOf i).toNat)
  case atStart => exact ⟨0, u0, Nat.zero_le _, rfl, rfl, Lib.hid rfl, hx3, hx3'⟩
  case round =>
    obtain ⟨k, m, hk, rfl, rfl, HM, hx, hx1r⟩ := hrel
    have hm9 : m ≤ 2300000 := by have h1 := HM.out; have h2 := HW.out k; omega
    by_cases hlt : k < n'
    · have hkl : k < l.length := by rw [HN.out]; exact hlt
      obtain ⟨ad, rfl, hlc0⟩ := HR.out.get (i := k) (by simpa using hkl)
      rw [List.getElem_map] at hlc0
      obtain ⟨x, hxe⟩ : ∃ x, l[k]? = some x := ⟨_, List.getElem?_eq_getElem hkl⟩
      rw [(List.getElem?_eq_some_iff.1 hxe).2] at hlc0
      have hlc : ∀ (a : Nat) (v : Value), (wC x)[a]? = some v → wr.cell? ((ad.add (k * 3)).add a) = some v := fun a v hv => hx1r.cell (hlc0 a v hv)
      have htk : u0 + wrsN (l.take (k + 1)) = m + wrN x := by rw [List.take_add_one, hxe, show (some x).toList = [x] from rfl, wrsN_snoc, HM.out]; omega
      obtain ⟨hz0, hz1⟩ : x.1.size ≤ 100000 ∧ x.2.1.size ≤ 100000 := by have := HPL.out x (List.mem_of_getElem? hxe); omega
      have HTK0 := Lib.hid htk
      clear hlc0 htk hxe hkl HM
      have hp0 : (0 : Int) ≤ (k : Int) := by omega
      have hp1 : (k : Int) < (n' : Int) := by omega
      go_upto_region 6 with (first
        | (refine wpList_load_row_ rfl 46 (.tmp 18) rfl (ad.add (k * 3)) rfl (wC x) _ hlc Try.underlying46 rfl (by rw [w_info]; rfl) ?_)
        | (refine wpList_store_blk rfl 46 (.tmp 6) (.tmp 19) rfl rfl wr.heap.size (wC x).toArray rfl rfl _ _ (Blk.new wr _ _) rfl (by kernel_rfl) (wC_one x) ?_; intro w4 hb3 hg3; have hx4 : Ext wr w4 := ((Ext.refl _).alloc _).grown_ hg3 (by simp)))
      obtain ⟨q, hq⟩ : ∃ q, q = wr.heap.size := ⟨_, rfl⟩
      rw [← hq] at hb3 ⊢
      have hx63 : Ext w w4 := hx.trans hx4
      have hx64 : Ext w1 w4 := hx1r.trans hx4
      obtain ⟨x0, x1, x2⟩ := x
      have HB3 := Lib.hid hb3
      have hz0' : x0.size ≤ 100000 := hz0
      have hz1' : x1.size ≤ 100000 := hz1
      obtain ⟨t0, ht0⟩ : ∃ t, (textB x0.data.toList).length = t := ⟨_, rfl⟩
      obtain ⟨t1, ht1⟩ : ∃ t, (textB x1.data.toList).length = t := ⟨_, rfl⟩
      have HTK : Hid (m + (1 + t0 + t1) = u0 + wrsN (l.take (k + 1))) := Lib.hid (by rw [HTK0.out, ← ht0, ← ht1]; rfl)
      have HS0 : Hid ((bstr (textB x0.data.toList)).size = t0) := Lib.hid (by rw [bstr_size, ht0])
      have HS1 : Hid ((bstr (textB x1.data.toList)).size = t1) := Lib.hid (by rw [bstr_size, ht1])
      have HT0 : Hid (t0 ≤ 100010) := Lib.hid (by rw [← ht0, textB_len, str_len]; have := sizeN_64 (n := x0.size) (by omega); omega)
      have HT1 : Hid (t1 ≤ 100010) := Lib.hid (by rw [← ht1, textB_len, str_len]; have := sizeN_64 (n := x1.size) (by omega); omega)
      have ht0b := HT0.out
      have ht1b := HT1.out
      have HW1 : Hid (IntKind.i64.wrap (1 + (t0 : Int)) = 1 + (t0 : Int)) := Lib.hid (by simp only [IntKind.wrap, IntKind.bits, IntKind.signed]; simp; omega)
      have HW2 : Hid (IntKind.i64.wrap (1 + (t0 : Int) + (t1 : Int)) = 1 + (t0 : Int) + (t1 : Int)) := Lib.hid (by simp only [IntKind.wrap, IntKind.bits, IntKind.signed]; simp; omega)
      have HW3 : Hid (IntKind.i64.wrap ((m : Int) + (1 + (t0 : Int) + (t1 : Int))) = (m : Int) + (1 + (t0 : Int) + (t1 : Int))) := Lib.hid (by simp only [IntKind.wrap, IntKind.bits, IntKind.signed]; simp; omega)
      clear hlc hg3 hb3 hq hx4 hx hx1r hz0 hz1 ht0 ht1 HTK0
      refine wp_region_opsL (FInv [20, 21, 22, 23, 24, 25, 26, 27, 28, 29, 30, 31] _ w4.drew [⟨0, none, 20, .val (.int .i64 (m : Int))⟩, ⟨1, none, 21, .val (.pointer (some ⟨q, 0, none⟩))⟩, ⟨2, none, 22, .val (.string x0)⟩, ⟨3, none, 23, .val (.string (bstr (textB x0.data.toList)))⟩, ⟨4, none, 24, .val (.int .i64 (t0 : Int))⟩, ⟨5, none, 25, .val (.int .i64 (1 + (t0 : Int)))⟩, ⟨6, none, 26, .val (.pointer (some ⟨q, 1, none⟩))⟩, ⟨7, none, 27, .val (.string x1)⟩, ⟨8, none, 28, .val (.string (bstr (textB x1.data.toList)))⟩, ⟨9, none, 29, .val (.int .i64 (t1 : Int))⟩, ⟨10, none, 30, .val (.int .i64 (1 + (t0 : Int) + (t1 : Int)))⟩, ⟨11, none, 31, .val (.int .i64 ((m : Int) + (1 + (t0 : Int) + (t1 : Int))))⟩]) 12 (by kernel_rfl) (by kernel_rfl) rfl rfl FInv.start ?_ ?_
      · refine ⟨?o0, ?o1, ?o2, ?o3, ?o4, ?o5, ?o6, ?o7, ?o8, ?o9, ?o10, ?o11, trivial⟩
        case o0 =>
          intro f a u h hfi hp hq hcl
          have q4 : a.tmps[4]?.getD undef = .int .i64 (m : Int) := h.agree.att (by decide)
          exact h.yieldG rfl (wanted_none rfl) 20 rfl (by change 20 < 40; decide) rfl _ rfl (by go_simp)
        case o1 =>
          intro f a u h hfi hp hq hcl
          have hyu : Ext w4 u := ((Ext.refl w4).drew).trans h.ext
          have z := (HB3.out.ext hyu).cell 0
          have q6 : a.tmps[6]?.getD undef = .pointer (some ⟨q, 0, none⟩) := h.agree.att (by decide)
          exact h.yieldG rfl (wanted_none rfl) 21 rfl (by change 21 < 40; decide) rfl _ rfl (by go_simp)
        case o2 =>
          intro f a u h hfi hp hq hcl
          have hyu : Ext w4 u := ((Ext.refl w4).drew).trans h.ext
          have z : u.cell? ⟨q, 0, none⟩ = some (.string x0) := by rw [(HB3.out.ext hyu).cell 0]; rfl
          have q21 := h.att 1 rfl (pre_of hp 1 rfl)
          exact h.yieldG rfl (wanted_none rfl) 22 rfl (by change 22 < 40; decide) rfl _ rfl (by go_simp)
        case o3 =>
          intro f a u h hfi hp hq hcl
          exact h.callG rfl (wanted_none rfl) 23 rfl (by change 23 < 40; decide) rfl _ rfl 47 #[.tmp 22] #[9] _ rfl (by kernel_rfl) (by rw [arr1, h.at_ 2 rfl (pre_of hp 2 rfl)]) (refText_calls x0 u (by omega))
        case o4 =>
          intro f a u h hfi hp hq hcl
          have z1 := HS0.out
          have z2 := HT0.out
          have q23 := h.att 3 rfl (pre_of hp 3 rfl)
          exact h.yieldG rfl (wanted_none rfl) 24 rfl (by change 24 < 40; decide) rfl _ rfl (by go_simp)
        case o5 =>
          intro f a u h hfi hp hq hcl
          have z := HW1.out
          have q24 := h.att 4 rfl (pre_of hp 4 rfl)
          exact h.yieldG rfl (wanted_none rfl) 25 rfl (by change 25 < 40; decide) rfl _ rfl (by go_simp)
        case o6 =>
          intro f a u h hfi hp hq hcl
          have hyu : Ext w4 u := ((Ext.refl w4).drew).trans h.ext
          have z := (HB3.out.ext hyu).cell 1
          have q6 : a.tmps[6]?.getD undef = .pointer (some ⟨q, 0, none⟩) := h.agree.att (by decide)
          exact h.yieldG rfl (wanted_none rfl) 26 rfl (by change 26 < 40; decide) rfl _ rfl (by go_simp)
        case o7 =>
          intro f a u h hfi hp hq hcl
          have hyu : Ext w4 u := ((Ext.refl w4).drew).trans h.ext
          have z : u.cell? ⟨q, 1, none⟩ = some (.string x1) := by rw [(HB3.out.ext hyu).cell 1]; rfl
          have q26 := h.att 6 rfl (pre_of hp 6 rfl)
          exact h.yieldG rfl (wanted_none rfl) 27 rfl (by change 27 < 40; decide) rfl _ rfl (by go_simp)
        case o8 =>
          intro f a u h hfi hp hq hcl
          exact h.callG rfl (wanted_none rfl) 28 rfl (by change 28 < 40; decide) rfl _ rfl 47 #[.tmp 27] #[9] _ rfl (by kernel_rfl) (by rw [arr1, h.at_ 7 rfl (pre_of hp 7 rfl)]) (refText_calls x1 u (by omega))
        case o9 =>
          intro f a u h hfi hp hq hcl
          have z1 := HS1.out
          have z2 := HT1.out
          have q28 := h.att 8 rfl (pre_of hp 8 rfl)
          exact h.yieldG rfl (wanted_none rfl) 29 rfl (by change 29 < 40; decide) rfl _ rfl (by go_simp)
        case o10 =>
          intro f a u h hfi hp hq hcl
          have z := HW2.out
          have q25 := h.att 5 rfl (pre_of hp 5 rfl)
          have q29 := h.att 9 rfl (pre_of hp 9 rfl)
          exact h.yieldG rfl (wanted_none rfl) 30 rfl (by change 30 < 40; decide) rfl _ rfl (by go_simp)
        case o11 =>
          intro f a u h hfi hp hq hcl
          have z := HW3.out
          have q20 := h.att 0 rfl (pre_of hp 0 rfl)
          have q30 := h.att 10 rfl (pre_of hp 10 rfl)
          exact h.yieldG rfl (wanted_none rfl) 31 rfl (by change 31 < 40; decide) rfl _ rfl (by go_simp)
      · intro f a u h hall
        have hyu : Ext w4 u := ((Ext.refl w4).drew).trans h.ext
        refine wpOp_of rfl rfl (wp_yield (v := .int .i64 ((m : Int) + (1 + (t0 : Int) + (t1 : Int)))) (w' := u) (by have q31 := h.att 11 rfl (hall 11 (by decide)); go_simp) ?_)
        have hag := h.agree.out
        simp only [List.foldl_cons, List.foldl_nil, Act.put, List.setIfInBounds_toArray, List.set_cons_zero, List.set_cons_succ] at hag
        generalize a.eval (.tmp 20) = y20 at hag
        generalize a.eval (.tmp 21) = y21 at hag
        generalize a.eval (.tmp 22) = y22 at hag
        generalize a.eval (.tmp 23) = y23 at hag
        generalize a.eval (.tmp 24) = y24 at hag
        generalize a.eval (.tmp 25) = y25 at hag
        generalize a.eval (.tmp 26) = y26 at hag
        generalize a.eval (.tmp 27) = y27 at hag
        generalize a.eval (.tmp 28) = y28 at hag
        generalize a.eval (.tmp 29) = y29 at hag
        generalize a.eval (.tmp 30) = y30 at hag
        generalize a.eval (.tmp 31) = y31 at hag
        clear h hall
        subst hag
        simp only [Act.put, List.setIfInBounds_toArray, List.set_cons_zero, List.set_cons_succ]
        have hxu := hx63.trans hyu
        have hxu1 := hx64.trans hyu
        clear HS0 HS1 HT0 HT1
        go_wp2
        go_roundw
        case rel => exact ⟨k + 1, m + (1 + t0 + t1), by omega, by go_num, by go_num, HTK, hxu, hxu1⟩
        case measure => simp [intOf]; omega
    · obtain rfl : n' = k := by omega
      have hL : l.take n' = l := by rw [← HN.out, List.take_length]
      have hm := HM.out
      rw [hL] at hm
      have htl := HTL.out
      rw [← hm] at htl
      have hu2 := sizeN_64 (n := m) (by omega)
      unfold sizeN at hu2
      obtain ⟨u2, hu2e⟩ : ∃ x, (uintB m).length = x := ⟨_, rfl⟩
      rw [hu2e] at htl hu2
      have hbu : (bstr (uintB m)).size = u2 := by rw [bstr_size, hu2e]
      have HTL2 := Lib.hid htl
      clear hL hm htl HTL HM hu2e
      go_wp2_with (go_at_call 46; (with_reducible refine Calls.mono (refUint_calls m wr (by omega)) ?_); rintro e w6 ⟨rfl, hx6⟩)
      go_ret
      rw [HTL2.out]
      exact ⟨by go_num, hx.trans hx6⟩
set_option maxRecDepth 50000 in
set_option maxHeartbeats 8000000 in
theorem tableSizes_calls (ls : List W3) (A : Option Addr) (n c : Nat) (w : World) (hr : Row w A 3 (ls.map wC)) (hn : ls.length = n) (hl : n ≤ 140737488351232) (hi : ∀ p ∈ ls, okW p) :
    Calls Try.prog 4 #[.slice A n c] w fun e w' => e = .returned (.bool true) ∧ Ext w w' := by
  have hm0 : (0 : Int) ≤ 4096 ∧ (4096 : Int) ≤ 1000000 := by decide
  have HG := Lib.hid (fun (u : World) (hu : Ext w u) => rgreat2_calls ls A n c 4096 u (hr.ext hu) hn hl hm0 hi)
  have HSZ := Lib.hid (fun (u : World) (hu : Ext w u) (hp : plN ls ≤ 100000) => sized_calls ls A n c u (hr.ext hu) hn hp)
  obtain ⟨T, hT⟩ : ∃ T, T = tabOf ls := ⟨_, rfl⟩
  have HOF := Lib.hid (fun (u : World) (hu : Ext w u) (hp : n ≤ 1000000) => of_tab ls T A n c u (hr.ext hu) hn hp hT)
  have HPT : Hid (plN T ≤ plN ls) := Lib.hid (by rw [hT]; exact plN_tab ls)
  have HNP : Hid (n ≤ plN ls) := Lib.hid (by rw [← hn]; exact plN_len ls)
  rw [← hT] at HSZ
  clear hr hn hi hm0 hT
  go_enter Try.func4, Try.ntmps4
  go_upto_region 5 with (first
    | (go_at_call 7; (with_reducible refine (tab_alive w).mono ?_); rintro e w1 ⟨rfl, hx1⟩)
    | (go_at_call 8; (with_reducible refine (HG.out w1 hx1).mono ?_); rintro e w2 ⟨⟨b1, rfl, hb1⟩, hx2'⟩; have hx2 := hx1.trans hx2'; cases b1))
  rotate_left
  · go_ret
    exact ⟨rfl, hx2⟩
  have hp4 : plN ls ≤ 4096 := by have := hb1 (by trivial); omega
  have hn4 : n ≤ 1000000 := by have := HNP.out; omega
  have hT4 : plN T ≤ 4096 := by have := HPT.out; omega
  have hTn : T.length ≤ 4096 := Nat.le_trans (plN_len T) hT4
  have HP4 := Lib.hid hp4
  have HT4 := Lib.hid hT4
  obtain ⟨nT, hnT⟩ : ∃ x, T.length = x := ⟨_, rfl⟩
  rw [hnT] at hTn
  have HNT := Lib.hid hnT
  obtain ⟨z, hz⟩ : ∃ x, (tbB T).length = x := ⟨_, rfl⟩
  have hz9 : z ≤ 22000030 := by
    rw [← hz, tbB_len]
    have h1 := wrsN_le T (by omega)
    have h2 := sizeN_64 (n := T.length) (by omega)
    have h3 := sizeN_64 (n := (uintB T.length).length + wrsN T) (by unfold sizeN at h2; omega)
    unfold sizeN at h2 h3
    omega
  have HZ := Lib.hid hz
  rw [hz] at HSZ
  clear hb1 HG HPT HNP hp4 hT4 hnT hz
  go_wp2_with (first
    | (go_at_call 21; (with_reducible refine Calls.mono (HSZ.out w2 hx2 (Nat.le_trans HP4.out (by decide))) ?_); rintro e w3 ⟨rfl, hx3'⟩; have hx3 := hx2.trans hx3')
    | (go_at_call 11; (with_reducible refine Calls.mono (HOF.out w3 hx3 hn4) ?_); rintro e w4 ⟨p, rfl, ht4, hx4'⟩; have hx4 := hx3.trans hx4'; have HTA := Lib.hid ht4; clear ht4)
    | (go_at_call 12; (with_reducible refine Calls.mono (bytes_calls (.pointer (some ⟨p, 0, none⟩)) T nT HNT.out w4 (fun u hu => all_tab p T u (HTA.out.ext hu) nT HNT.out (by omega)) (Nat.le_trans HT4.out (by decide))) ?_); rintro e w5 ⟨v5, rfl, ho5, hx5⟩; obtain ⟨A5, c5, rfl, _, _, _⟩ := ho5.form; rw [HZ.out]; clear ho5))
  go_ret
  exact ⟨rfl, hx4.trans hx5⟩
end Go.Proofs.Ytnggdkpaofbaaaa
