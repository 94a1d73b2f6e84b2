/- TableReads: the walk. Printed by wip/mktabreads.py. -/
import Derived.Test.YtnggdkpaofbaaaaTabRead
import Derived.Test.YtnggdkpaofbaaaaTabRRead
import Derived.Test.YtnggdkpaofbaaaaTabLong
import Derived.Test.YtnggdkpaofbaaaaTabLaw
namespace Go.Proofs.Ytnggdkpaofbaaaa
open Go.RowKit Go.Shelf
set_option linter.unusedVariables false

set_option maxRecDepth 100000 in
set_option maxHeartbeats 32000000 in
theorem tableReads_calls (ls : List W3) (A : Option Addr) (n c : Nat) (bs : List UInt8) (A2 : Option Addr) (n2 c2 : Nat) (z : Int) (w : World) (hr : Row w A 3 (ls.map wC)) (hn : ls.length = n) (hl : n ≤ 140737488351232) (hi : ∀ p ∈ ls, okW p)
    (hb : Cells w A2 (bv bs)) (hn2 : bs.length = n2) (hc2 : n2 ≤ c2) (hl2 : n2 ≤ 140737488351232) (hz0 : -9223372036854775808 ≤ z) (hz1 : z ≤ 9223372036854775807) :
    Calls Try.prog 6 #[.slice A n c, .slice A2 n2 c2, .int .i64 z] w fun e w' => e = .returned (.bool true) ∧ Ext w w' := by
  have hm0 : (0 : Int) ≤ 8192 ∧ (8192 : Int) ≤ 1000000 := by decide
  have HG := Lib.hid (fun (u : World) (hu : Ext w u) => rgreat2_calls ls A n c 8192 u (hr.ext hu) hn hl hm0 hi)
  obtain ⟨T, hT⟩ : ∃ T, T = tabOf ls := ⟨_, rfl⟩
  have HOF := Lib.hid (fun (u : World) (hu : Ext w u) (hp : n ≤ 1000000) => of_tab ls T A n c u (hr.ext hu) hn hp hT)
  have HPT0 : Hid (plN T ≤ plN ls) := Lib.hid (by rw [hT]; exact plN_tab ls)
  have HNP : Hid (n ≤ plN ls) := Lib.hid (by rw [← hn]; exact plN_len ls)
  have HTS : Hid (SortedW T ∧ Fixed T) := Lib.hid (by rw [hT]; exact ⟨tabOf_sorted ls, tabOf_fixed ls⟩)
  have HB := Lib.hid hb
  have HN2 := Lib.hid hn2
  clear hr hn hi hm0 hT hb hn2
  go_enter Try.func6, Try.ntmps6
  by_cases h1 : (8192 : Int) < (n2 : Int)
  · go_wp2_with (first
      | (go_at_call 7; (with_reducible refine (tab_alive w).mono ?_); rintro e w1 ⟨rfl, hx1⟩)
      | (go_at_call 8; (with_reducible refine (HG.out w1 hx1).mono ?_); rintro e w2 ⟨⟨b1, rfl, hb1⟩, hx2'⟩; have hx2 := hx1.trans hx2'; clear hb1; cases b1))
    all_goals
      go_ret
      exact ⟨rfl, hx2⟩
  by_cases h2 : z < 0
  · go_wp2_with (first
      | (go_at_call 7; (with_reducible refine (tab_alive w).mono ?_); rintro e w1 ⟨rfl, hx1⟩)
      | (go_at_call 8; (with_reducible refine (HG.out w1 hx1).mono ?_); rintro e w2 ⟨⟨b1, rfl, hb1⟩, hx2'⟩; have hx2 := hx1.trans hx2'; clear hb1; cases b1))
    all_goals
      go_ret
      exact ⟨rfl, hx2⟩
  by_cases h3 : (1000 : Int) < z
  · go_wp2_with (first
      | (go_at_call 7; (with_reducible refine (tab_alive w).mono ?_); rintro e w1 ⟨rfl, hx1⟩)
      | (go_at_call 8; (with_reducible refine (HG.out w1 hx1).mono ?_); rintro e w2 ⟨⟨b1, rfl, hb1⟩, hx2'⟩; have hx2 := hx1.trans hx2'; clear hb1; cases b1))
    all_goals
      go_ret
      exact ⟨rfl, hx2⟩
  obtain ⟨nz, rfl⟩ : ∃ k : Nat, z = (k : Int) := ⟨z.toNat, by omega⟩
  go_upto_region 5 with (first
    | (go_at_call 7; (with_reducible refine (tab_alive w).mono ?_); rintro e w1 ⟨rfl, hx1⟩)
    | (go_at_call 8; (with_reducible refine (HG.out w1 hx1).mono ?_); rintro e w2 ⟨⟨b1, rfl, hb1⟩, hx2'⟩; have hx2 := hx1.trans hx2'; cases b1))
  rotate_left
  · go_ret
    exact ⟨rfl, hx2⟩
  have hp4 : plN ls ≤ 8192 := by have := hb1 (by trivial); omega
  have hn4 : n ≤ 1000000 := by have := HNP.out; omega
  have hT4 : plN T ≤ 8192 := by have := HPT0.out; omega
  have hTn : T.length ≤ 8192 := Nat.le_trans (plN_len T) hT4
  have hrl : (rowB T).length ≤ 200000 := by
    rw [rowB_len]
    have h1 := wrsN_le T (by omega)
    have h2 := sizeN_64 (n := T.length) (by omega)
    unfold sizeN at h2
    omega
  have hztl : (tbB T).length ≤ 200020 := by
    unfold tbB
    rw [fr_len, textB_len]
    have h2 := sizeN_64 (n := (rowB T).length) (by omega)
    omega
  have HRL : Hid ((rowB T).length < 2 ^ 64) := Lib.hid (by omega)
  have HSZ : Hid (∀ x ∈ T, szW x) := Lib.hid (fun x hx => by have := plN_mem hx; unfold szW; omega)
  have HPT := Lib.hid hT4
  obtain ⟨nT, hnT⟩ : ∃ x, T.length = x := ⟨_, rfl⟩
  rw [hnT] at hTn
  have HNT := Lib.hid hnT
  obtain ⟨L, hL⟩ : ∃ x, (tbB T ++ List.replicate nz 0).length = x := ⟨_, rfl⟩
  have HLL := Lib.hid hL
  have hL9 : L ≤ 201020 := by rw [← hL, List.length_append, List.length_replicate]; omega
  have HZS : Hid (∀ x ∈ List.replicate nz (0 : UInt8), x = 0) := Lib.hid (fun x hx => (List.mem_replicate.1 hx).2)
  have HTBL := Lib.hid hztl
  clear hb1 HG HPT0 HNP hp4 hT4 hnT hrl hL hztl hx1 hx2'
  have HRD1 := Lib.hid (tread_calls A2 n2 c2 bs w2 (HB.out.ext hx2) HN2.out hc2 (by omega))
  go_upto_region 6 with (go_at_call 25; (with_reducible refine Calls.mono HRD1.out ?_); rintro e w3 ⟨hres, hx3'⟩; rcases hres with ⟨p3, l3, rfl, hrd3, hpl3, ht3⟩ | ⟨rfl, hno3⟩)
  · have hx3 := hx2.trans hx3'
    have hcv := conv_str (P := Try.prog) Try.underlying31 Try.underlying5 Try.underlying9 (c := c2) HN2.out (HB.out.ext hx3)
    have HRR := Lib.hid (rread_calls n2 bs w3 HN2.out (by omega))
    clear HRD1
    have HT3 := Lib.hid (ht3.lower (Nat.zero_le _))
    have hl3 : l3.length ≤ 1000000 := Nat.le_trans (plN_len l3) hpl3
    obtain ⟨n3, hn3⟩ : ∃ x, l3.length = x := ⟨_, rfl⟩
    have HN3 := Lib.hid hn3
    rw [hn3] at hl3
    have HR3 := Lib.hid hrd3
    clear hn3 ht3 hrd3 hpl3
    go_upto_region 7 with (go_at_call 26; (with_reducible refine Calls.mono HRR.out ?_); rintro e w4 ⟨hres, hx4⟩; rcases hres with ⟨v4, l4, rfl, hrd4, hll4, ho4⟩ | ⟨rfl, hno4⟩)
    rotate_left
    · exact absurd HR3.out (hno4 l3)
    have hl4 : l4 = l3 := reads_uniq hrd4 HR3.out (by omega) (by rw [HN3.out]; omega)
    subst hl4
    obtain ⟨A4, c4, rfl, _, _, hc4⟩ := ho4.form
    rw [HN3.out]
    have HW4 := Lib.hid (row_of_cells hc4)
    clear ho4 hc4 hrd4 hll4 hcv HRR
    go_upto_region 9 with (first
      | (go_at_call 20; (with_reducible refine Calls.mono (all_tab p3 l4 w4 (HT3.out.ext hx4) n3 HN3.out hl3) ?_); rintro e w5 ⟨A5, c5, rfl, r5, hx5⟩; have HSM0 := Lib.hid (rsame_self l4 A5 A4 n3 c5 c4 w5 r5 (HW4.out.ext hx5) HN3.out (by omega)); clear r5)
      | (go_at_call 19; (with_reducible refine Calls.mono HSM0.out ?_); rintro e w7 ⟨rfl, hx7'⟩))
    have hx7 := ((hx3.trans hx4).trans hx5).trans hx7'
    clear HSM0 HW4 HT3 hx4 hx5 hx7'
    go_upto_region 10 with (go_at_call 11; (with_reducible refine Calls.mono (HOF.out w7 hx7 hn4) ?_); rintro e w8 ⟨p, rfl, ht8, hx8'⟩)
    have hx8 := hx7.trans hx8'
    have HTA := Lib.hid ht8
    clear ht8 HOF
    have HAL := Lib.hid (fun (u : World) (hu : Ext w8 u) => all_tab p T u (HTA.out.ext hu) nT HNT.out (by omega))
    have HBY := Lib.hid (bytes_calls (.pointer (some ⟨p, 0, none⟩)) T nT HNT.out w8 (fun u hu => HAL.out u hu) (Nat.le_trans HPT.out (by decide)))
    go_upto_region 11 with (first
      | (go_at_call 12; (with_reducible refine Calls.mono HBY.out ?_); rintro e w9 ⟨v9, rfl, ho9, hx9⟩; have HO9 := Lib.hid ho9; clear ho9)
      | (at_builtin; refine wpList_append_zerosN _ rfl (.tmp 71) (.tmp 72) rfl w8.heap.size v9 (tbB T) rfl HO9.out nz _ rfl rfl (by have := HTBL.out; omega) hx9.size ?_; intro v10 w10 ho10 hg10; have hx10 : Ext w8 w10 := HO9.out.grows hx9 hg10; obtain ⟨A10, c10, rfl, hc10, _, hcl10⟩ := ho10.form_at HLL.out; have HRD2 := Lib.hid (tread_calls A10 L c10 (tbB T ++ List.replicate nz 0) w10 hcl10 HLL.out hc10 (by omega)); clear ho10 hg10 hcl10)
      | (go_at_call 25; (with_reducible refine Calls.mono HRD2.out ?_); rintro e w11 ⟨hres, hx11⟩; rcases hres with ⟨p11, l11, rfl, hrd11, hpl11, ht11⟩ | ⟨rfl, hno11⟩))
    · have hx811 := hx10.trans hx11
      have hx011 := hx8.trans hx811
      by_cases hsh : ∀ x ∈ T, okR x
      rotate_left
      · exact absurd hrd11 (reads_not T HRL.out HSZ.out (by rw [HNT.out]; omega) _ HZS.out hsh l11)
      have hl11 : l11 = T := reads_uniq hrd11 (reads_tab T HRL.out _ HZS.out ⟨HTS.out.1, HTS.out.2, hsh⟩) (by have := plN_len l11; omega) (by rw [HNT.out]; omega)
      subst hl11
      have HSH := Lib.hid hsh
      have HTA11 := Lib.hid (ht11.lower (Nat.zero_le _))
      clear hsh hrd11 hpl11 ht11
      go_wp2_with (first
        | (go_at_call 20; (with_reducible refine Calls.mono (HAL.out w11 hx811) ?_); rintro e w12 ⟨A12, c12, rfl, r12, hx12⟩; have HLG := Lib.hid (rlong_calls l11 A12 nT c12 w12 r12 HNT.out (by omega)); clear r12)
        | (go_at_call 9; (with_reducible refine Calls.mono HLG.out ?_); rintro e w13 ⟨⟨bL, rfl, hbL⟩, hx13⟩; obtain rfl : bL = false := (by cases bL; rfl; exact absurd HSH.out (hbL.1 rfl)); clear hbL; have hx1113 := hx12.trans hx13)
        | (go_at_call 20; (with_reducible refine Calls.mono (HAL.out w13 (hx811.trans hx1113)) ?_); rintro e w14 ⟨A14, c14, rfl, r14, hx14⟩; have HR14 := Lib.hid r14; clear r14)
        | (go_at_call 20; (with_reducible refine Calls.mono (all_tab p11 l11 w14 (HTA11.out.ext (hx1113.trans hx14)) nT HNT.out (by omega)) ?_); rintro e w15 ⟨A15, c15, rfl, r15, hx15⟩; have HSM := Lib.hid (rsame_self l11 A14 A15 nT c14 c15 w15 (HR14.out.ext hx15) r15 HNT.out (by omega)); clear r15)
        | (go_at_call 19; (with_reducible refine Calls.mono HSM.out ?_); rintro e w16 ⟨rfl, hx16⟩))
      go_ret
      exact ⟨rfl, (((hx011.trans hx1113).trans hx14).trans hx15).trans hx16⟩
    · have hx811 := hx10.trans hx11
      have hx011 := hx8.trans hx811
      have hsh : ¬ ∀ x ∈ T, okR x := fun hsh => hno11 T (reads_tab T HRL.out _ HZS.out ⟨HTS.out.1, HTS.out.2, hsh⟩)
      have HSH := Lib.hid hsh
      clear hsh hno11
      go_wp2_with (first
        | (go_at_call 20; (with_reducible refine Calls.mono (HAL.out w11 hx811) ?_); rintro e w12 ⟨A12, c12, rfl, r12, hx12⟩; have HLG := Lib.hid (rlong_calls T A12 nT c12 w12 r12 HNT.out (by omega)); clear r12)
        | (go_at_call 9; (with_reducible refine Calls.mono HLG.out ?_); rintro e w13 ⟨⟨bL, rfl, hbL⟩, hx13⟩; obtain rfl : bL = true := hbL.2 HSH.out; clear hbL; have hx1113 := hx12.trans hx13))
      go_ret
      exact ⟨rfl, hx011.trans hx1113⟩
  · have hx3 := hx2.trans hx3'
    have hcv := conv_str (P := Try.prog) Try.underlying31 Try.underlying5 Try.underlying9 (c := c2) HN2.out (HB.out.ext hx3)
    have HRR := Lib.hid (rread_calls n2 bs w3 HN2.out (by omega))
    clear HRD1
    have HNO := Lib.hid hno3
    clear hno3
    go_upto_region 7 with (go_at_call 26; (with_reducible refine Calls.mono HRR.out ?_); rintro e w7 ⟨hres, hx7'⟩; rcases hres with ⟨v4, l4, rfl, hrd4, hll4, ho4⟩ | ⟨rfl, hno4⟩)
    · exact absurd hrd4 (HNO.out l4)
    have hx7 := hx3.trans hx7'
    clear hcv HRR hno4 HNO hx7'
    go_upto_region 9 with (fail)
    go_upto_region 10 with (go_at_call 11; (with_reducible refine Calls.mono (HOF.out w7 hx7 hn4) ?_); rintro e w8 ⟨p, rfl, ht8, hx8'⟩)
    have hx8 := hx7.trans hx8'
    have HTA := Lib.hid ht8
    clear ht8 HOF
    have HAL := Lib.hid (fun (u : World) (hu : Ext w8 u) => all_tab p T u (HTA.out.ext hu) nT HNT.out (by omega))
    have HBY := Lib.hid (bytes_calls (.pointer (some ⟨p, 0, none⟩)) T nT HNT.out w8 (fun u hu => HAL.out u hu) (Nat.le_trans HPT.out (by decide)))
    go_upto_region 11 with (first
      | (go_at_call 12; (with_reducible refine Calls.mono HBY.out ?_); rintro e w9 ⟨v9, rfl, ho9, hx9⟩; have HO9 := Lib.hid ho9; clear ho9)
      | (at_builtin; refine wpList_append_zerosN _ rfl (.tmp 71) (.tmp 72) rfl w8.heap.size v9 (tbB T) rfl HO9.out nz _ rfl rfl (by have := HTBL.out; omega) hx9.size ?_; intro v10 w10 ho10 hg10; have hx10 : Ext w8 w10 := HO9.out.grows hx9 hg10; obtain ⟨A10, c10, rfl, hc10, _, hcl10⟩ := ho10.form_at HLL.out; have HRD2 := Lib.hid (tread_calls A10 L c10 (tbB T ++ List.replicate nz 0) w10 hcl10 HLL.out hc10 (by omega)); clear ho10 hg10 hcl10)
      | (go_at_call 25; (with_reducible refine Calls.mono HRD2.out ?_); rintro e w11 ⟨hres, hx11⟩; rcases hres with ⟨p11, l11, rfl, hrd11, hpl11, ht11⟩ | ⟨rfl, hno11⟩))
    · have hx811 := hx10.trans hx11
      have hx011 := hx8.trans hx811
      by_cases hsh : ∀ x ∈ T, okR x
      rotate_left
      · exact absurd hrd11 (reads_not T HRL.out HSZ.out (by rw [HNT.out]; omega) _ HZS.out hsh l11)
      have hl11 : l11 = T := reads_uniq hrd11 (reads_tab T HRL.out _ HZS.out ⟨HTS.out.1, HTS.out.2, hsh⟩) (by have := plN_len l11; omega) (by rw [HNT.out]; omega)
      subst hl11
      have HSH := Lib.hid hsh
      have HTA11 := Lib.hid (ht11.lower (Nat.zero_le _))
      clear hsh hrd11 hpl11 ht11
      go_wp2_with (first
        | (go_at_call 20; (with_reducible refine Calls.mono (HAL.out w11 hx811) ?_); rintro e w12 ⟨A12, c12, rfl, r12, hx12⟩; have HLG := Lib.hid (rlong_calls l11 A12 nT c12 w12 r12 HNT.out (by omega)); clear r12)
        | (go_at_call 9; (with_reducible refine Calls.mono HLG.out ?_); rintro e w13 ⟨⟨bL, rfl, hbL⟩, hx13⟩; obtain rfl : bL = false := (by cases bL; rfl; exact absurd HSH.out (hbL.1 rfl)); clear hbL; have hx1113 := hx12.trans hx13)
        | (go_at_call 20; (with_reducible refine Calls.mono (HAL.out w13 (hx811.trans hx1113)) ?_); rintro e w14 ⟨A14, c14, rfl, r14, hx14⟩; have HR14 := Lib.hid r14; clear r14)
        | (go_at_call 20; (with_reducible refine Calls.mono (all_tab p11 l11 w14 (HTA11.out.ext (hx1113.trans hx14)) nT HNT.out (by omega)) ?_); rintro e w15 ⟨A15, c15, rfl, r15, hx15⟩; have HSM := Lib.hid (rsame_self l11 A14 A15 nT c14 c15 w15 (HR14.out.ext hx15) r15 HNT.out (by omega)); clear r15)
        | (go_at_call 19; (with_reducible refine Calls.mono HSM.out ?_); rintro e w16 ⟨rfl, hx16⟩))
      go_ret
      exact ⟨rfl, (((hx011.trans hx1113).trans hx14).trans hx15).trans hx16⟩
    · have hx811 := hx10.trans hx11
      have hx011 := hx8.trans hx811
      have hsh : ¬ ∀ x ∈ T, okR x := fun hsh => hno11 T (reads_tab T HRL.out _ HZS.out ⟨HTS.out.1, HTS.out.2, hsh⟩)
      have HSH := Lib.hid hsh
      clear hsh hno11
      go_wp2_with (first
        | (go_at_call 20; (with_reducible refine Calls.mono (HAL.out w11 hx811) ?_); rintro e w12 ⟨A12, c12, rfl, r12, hx12⟩; have HLG := Lib.hid (rlong_calls T A12 nT c12 w12 r12 HNT.out (by omega)); clear r12)
        | (go_at_call 9; (with_reducible refine Calls.mono HLG.out ?_); rintro e w13 ⟨⟨bL, rfl, hbL⟩, hx13⟩; obtain rfl : bL = true := hbL.2 HSH.out; clear hbL; have hx1113 := hx12.trans hx13))
      go_ret
      exact ⟨rfl, hx011.trans hx1113⟩
end Go.Proofs.Ytnggdkpaofbaaaa
