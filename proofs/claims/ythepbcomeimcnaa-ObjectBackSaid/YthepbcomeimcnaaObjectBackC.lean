/- ObjectBack, one of four ways: the walk of the law. Printed by wip/mkobjback.py. -/
import Derived.Test.YthepbcomeimcnaaObjectBackP
namespace Go.Proofs.Ythepbcomeimcnaa
open Go.RowKit
set_option linter.unusedVariables false

set_option maxRecDepth 100000 in
set_option maxHeartbeats 32000000 in
theorem objectBack_tf (t : Tr) (pa ka : Option Addr) (P K pc kc : Nat) (c : Cm) (qa : Option Addr) (Q qc : Nat) (A : Option Addr) (n n3c : Nat) (bs : List UInt8) (w : World) (h : TrAt w t pa ka P K pc kc) (hc : CmAt w c qa Q qc) (hb : Cells w A (bv bs)) (hn : bs.length = n) (hl : n ≤ 140737488351232) (htg : t.good = true) (hcg : c.good = false) :
    Calls Try.prog 7 #[tra pa P pc ka K kc, cma c qa Q qc, .slice A n n3c] w fun e w' => e = .returned (.bool true) ∧ Ext w w' := by
  have Hh := Lib.hid h
  have Hc := Lib.hid hc
  have HR := Lib.hid hc.hr
  have Hna := Lib.hid hn
  have hsn := hc.sn
  have hbq := hc.bq
  have hbk := h.bk
  have hbp := h.bp
  have HGA := Lib.hid (fun w' h' => getTree_calls A n n3c bs w' h' hn hl)
  have HGB := Lib.hid (fun w' h' => getCommit_calls A n n3c bs w' h' hn hl)
  have hlen : (cmC c qa Q qc).length = 36 := cmC_len _ _ _ _ HR.out
  clear h hc hn
  go_enter Try.func7, Try.ntmps7
  obtain ⟨w0, hw0⟩ : ∃ w0, w0 = (w.alloc (.cells #[.slice pa P pc, .slice ka K kc] 25)).alloc (.cells (cmC c qa Q qc).toArray 31) := ⟨_, rfl⟩
  have hx0 : Ext w w0 := by rw [hw0]; exact ((Ext.refl _).alloc _).alloc _
  have Hbt := Lib.hid (show Blk w0 w.heap.size 25 #[.slice pa P pc, .slice ka K kc] from by rw [hw0]; exact (Blk.new w _ _).ext ((Ext.refl _).alloc _))
  have Hbc := Lib.hid (show Blk w0 (w.heap.size + 1) 31 (cmC c qa Q qc).toArray from by rw [hw0]; have e := Blk.new (w.alloc (.cells #[.slice pa P pc, .slice ka K kc] 25)) 31 (cmC c qa Q qc).toArray; simpa using e)
  go_upto_region 1 with (fail)
  rw [← hw0]
  clear hw0
  obtain ⟨g, hg1⟩ : ∃ g, g = w.heap.size := ⟨_, rfl⟩
  rw [← hg1] at Hbt Hbc ⊢
  clear hg1
  have HT := Lib.hid (blk_rowB (l := [.slice pa P pc, .slice ka K kc]) Hbt.out)
  have HC := Lib.hid (blk_rowB (l := cmC c qa Q qc) Hbc.out)
  have Hba := Lib.hid (hb.ext hx0)
  by_cases hn4 : (4096 : Int) < (n : Int)
  · go_wp2_with (first
      | (go_at_call 8; (with_reducible refine (obj_alive _).mono ?_); rintro e w1 ⟨rfl, hx1⟩)
      | (refine wpList_load_row_ rfl 25 (.tmp 3) rfl ⟨g, 0, none⟩ rfl [.slice pa P pc, .slice ka K kc] _ (fun j v hv => hx1.cell (HT.out j v hv)) Try.underlying25 rfl (by kernel_rfl) ?_)
      | (go_at_call 9; (with_reducible refine (greatTree_few t pa ka P K pc kc _ (Hh.out.ext (hx0.trans hx1))).mono ?_); rintro e w2 ⟨⟨b, rfl, few2⟩, hx2⟩; have hx02 := hx1.trans hx2; cases b)
      | (refine wp_load_row_ 31 (.tmp 4) rfl ⟨g + 1, 0, none⟩ rfl (cmC c qa Q qc) _ (fun j v hv => hx02.cell (HC.out j v hv)) Try.underlying31 rfl (by rw [cm_info, hlen]) ?_)
      | (refine wpList_load_row_g (g := 2) (d' := 31) rfl rfl rfl 31 (.tmp 4) rfl ⟨g + 1, 0, none⟩ rfl (cmC c qa Q qc) _ (fun j v hv => hx02.cell (HC.out j v hv)) Try.underlying31 rfl (by rw [cm_info, hlen]) ?_)
      | (go_at_call 10; (with_reducible refine (greatCommit_few c qa Q qc _ (Hc.out.ext (hx0.trans hx02))).mono ?_); rintro e w3 ⟨⟨b, rfl, few3⟩, hx3⟩; cases b))
    all_goals
      go_ret
      first | exact ⟨rfl, (hx0.trans hx02).trans hx3⟩ | exact ⟨rfl, hx0.trans hx02⟩
  · go_upto_region 5 with (first
      | (go_at_call 8; (with_reducible refine (obj_alive _).mono ?_); rintro e w1 ⟨rfl, hx1⟩)
      | (refine wpList_load_row_ rfl 25 (.tmp 3) rfl ⟨g, 0, none⟩ rfl [.slice pa P pc, .slice ka K kc] _ (fun j v hv => hx1.cell (HT.out j v hv)) Try.underlying25 rfl (by kernel_rfl) ?_)
      | (go_at_call 9; (with_reducible refine (greatTree_few t pa ka P K pc kc _ (Hh.out.ext (hx0.trans hx1))).mono ?_); rintro e w2 ⟨⟨b, rfl, few2⟩, hx2⟩; have hx02 := hx1.trans hx2; cases b)
      | (refine wp_load_row_ 31 (.tmp 4) rfl ⟨g + 1, 0, none⟩ rfl (cmC c qa Q qc) _ (fun j v hv => hx02.cell (HC.out j v hv)) Try.underlying31 rfl (by rw [cm_info, hlen]) ?_)
      | (refine wpList_load_row_g (g := 2) (d' := 31) rfl rfl rfl 31 (.tmp 4) rfl ⟨g + 1, 0, none⟩ rfl (cmC c qa Q qc) _ (fun j v hv => hx02.cell (HC.out j v hv)) Try.underlying31 rfl (by rw [cm_info, hlen]) ?_)
      | (go_at_call 10; (with_reducible refine (greatCommit_few c qa Q qc _ (Hc.out.ext (hx0.trans hx02))).mono ?_); rintro e w3 ⟨⟨b, rfl, few3⟩, hx3⟩; cases b))
    rotate_left
    · go_ret
      exact ⟨rfl, (hx0.trans hx02).trans hx3⟩
    · go_ret
      exact ⟨rfl, hx0.trans hx02⟩
    clear few2 few3
    have hx03 := hx02.trans hx3
    have hy3 := hx0.trans hx03
    obtain ⟨BT, hBT⟩ : ∃ BT, BT = (if t.good then t.bytes else []) := ⟨_, rfl⟩
    obtain ⟨BC, hBC⟩ : ∃ BC, BC = (if c.good then c.bytes else []) := ⟨_, rfl⟩
    obtain ⟨eT, heT⟩ : ∃ eT : Int, eT = (if t.good then 0 else 1) := ⟨_, rfl⟩
    obtain ⟨eC, heC⟩ : ∃ eC : Int, eC = (if c.good then 0 else 1) := ⟨_, rfl⟩
    have hpt := fun w' h' => putTree_calls t pa ka P K pc kc w' h'
    have hpc := fun w' h' => putCommit_calls c qa Q qc w' h'
    simp only [← hBT, ← hBC, ← heT, ← heC] at hpt hpc
    have HPT := Lib.hid hpt
    have HPC := Lib.hid hpc
    have HBT := Lib.hid hBT
    have HBC := Lib.hid hBC
    have HeT := Lib.hid heT
    have HeC := Lib.hid heC
    clear hpt hpc hBT hBC heT heC
    obtain rfl : BT = t.bytes := by have := HBT.out; rwa [htg] at this
    obtain rfl : eT = 0 := by have := HeT.out; rwa [htg] at this
    go_upto_region 7 with (first
      | (refine wpList_load_row_ rfl 25 (.tmp 3) rfl ⟨g, 0, none⟩ rfl [.slice pa P pc, .slice ka K kc] _ (fun j v hv => hx03.cell (HT.out j v hv)) Try.underlying25 rfl (by kernel_rfl) ?_)
      | (go_at_call 11; (with_reducible refine (HPT.out _ (Hh.out.ext hy3)).mono ?_); rintro e w11 ⟨⟨v11, rfl, own11⟩, hx11⟩))
    have hT1 := decT_of htg (fun k hk => (Hh.out.sk k hk).2)
    have hT2 := decC_none_of hT1
    obtain ⟨nT, hnT⟩ : ∃ n, t.bytes.length = n := ⟨_, rfl⟩
    have ht160 := tr_160 htg (fun k hk => (Hh.out.sk k hk).2)
    rw [hnT] at ht160
    obtain ⟨AT, kT, eT', lT, _, _⟩ := Own.form_at own11 hnT
    subst eT'
    have HOT := Lib.hid own11
    have hg1 := fun w' h' => getTree_calls AT nT kT t.bytes w' h' hnT (by omega)
    have hg2 := fun w' h' => getCommit_calls AT nT kT t.bytes w' h' hnT (by omega)
    rw [hT1] at hg1
    rw [hT2] at hg2
    unfold TrPost at hg1
    unfold CmPost at hg2
    simp only [Option.isSome_some, Option.getD_some, fErr, if_true] at hg1
    simp only [Option.isSome_none, Option.getD_none, fErr, if_false, Bool.false_eq_true] at hg2
    have HG1 := Lib.hid hg1
    have HG2 := Lib.hid hg2
    have ht160' : ¬ (160 : Int) < (nT : Int) := by omega
    clear own11 hnT hg1 hg2 hT1 hT2
    go_upto_region 9 with (first
      | (go_at_call 19; (with_reducible refine (HG1.out _ HOT.out.cells).mono ?_); rintro e w12 ⟨a1, k1, P1, K1, c1', d1', rfl, hN1, hx12⟩; have hNN := Lib.hid hN1)
      | (refine wpList_store_blk rfl 25 (.tmp 9) (.tmp 50) rfl rfl w12.heap.size #[.slice a1 P1 c1', .slice k1 K1 d1'] rfl rfl _ _ (Blk.new_at rfl _ _) rfl (by kernel_rfl) (by simp [Value.oneCell']) ?_; intro w13 hb13 hg13; have hx13 : Ext w12 w13 := ((Ext.refl _).alloc _).grown_ hg13 (by simp))
      | (go_at_call 23; (with_reducible refine (HG2.out _ ((HOT.out.ext hx12).ext hx13).cells).mono ?_); rintro e w14 ⟨a2, P2, c2', rfl, hN2, hx14⟩)
      | (refine wpList_store_blk rfl 31 (.tmp 11) (.tmp 55) rfl rfl w14.heap.size (cmC cmZ a2 P2 c2').toArray rfl rfl _ _ (Blk.new_at rfl _ _) (by rw [List.size_toArray, cmC_len _ _ _ _ idNone_len]; rfl) (by kernel_rfl) (cmC_cells _ _ _ _) ?_; intro w15 hb15 hg15; have hx15 : Ext w14 w15 := ((Ext.refl _).alloc _).grown_ hg15 (by simp)))
    have hx125 := hx13.trans (hx14.trans hx15)
    have hx115 := hx12.trans hx125
    have hxQ := hx03.trans (hx11.trans hx115)
    have hwQ := hy3.trans (hx11.trans hx115)
    have hb13' := hb13.ext (hx14.trans hx15)
    obtain rfl : P1 = P := hNN.out.hp.symm.trans Hh.out.hp
    obtain rfl : K1 = K := hNN.out.hk.symm.trans Hh.out.hk
    go_upto_region 11 with (first
      | (refine wpList_load_row_g (g := 2) (d' := 59) rfl rfl rfl 25 (.tmp 9) rfl ⟨w12.heap.size, 0, none⟩ rfl [.slice a1 P1 c1', .slice k1 K1 d1'] _ (blk_rowB hb13') Try.underlying25 rfl (by kernel_rfl) ?_)
      | (refine wpList_load_row_g (g := 2) (d' := 59) rfl rfl rfl 25 (.tmp 3) rfl ⟨g, 0, none⟩ rfl [.slice pa P1 pc, .slice ka K1 kc] _ (fun j v hv => hxQ.cell (HT.out j v hv)) Try.underlying25 rfl (by kernel_rfl) ?_)
      | (go_at_call 13; (with_reducible refine (sameTree_calls t a1 k1 pa ka P1 K1 c1' d1' pc kc _ (hNN.out.ext hx125) (Hh.out.ext hwQ)).mono ?_); rintro e w16 ⟨rfl, hx16⟩))
    have hxS := hxQ.trans hx16
    have hwS := hwQ.trans hx16
    obtain rfl : BC = [] := by have := HBC.out; rwa [hcg] at this
    obtain rfl : eC = 1 := by have := HeC.out; rwa [hcg] at this
    go_upto_region 17 with (first
      | (refine wpList_load_row_ rfl 31 (.tmp 4) rfl ⟨g + 1, 0, none⟩ rfl (cmC c qa Q qc) _ (fun j v hv => hxS.cell (HC.out j v hv)) Try.underlying31 rfl (by rw [cm_info, hlen]) ?_)
      | (go_at_call 12; (with_reducible refine (HPC.out _ (Hc.out.ext hwS)).mono ?_); rintro e w21 ⟨⟨v21, rfl, own21⟩, hx21⟩))
    have hxT := hxS.trans hx21
    have hwT := hwS.trans hx21
    cases hdT : decT bs with
    | some tt =>
      obtain ⟨hgT, hlT, hbT⟩ := decT_good hdT
      rw [hdT] at HGA
      have hpp := fun pa ka P K pc kc w' h' => putTree_calls tt pa ka P K pc kc w' h'
      simp only [hgT, hbT, if_true] at hpp
      have HPP := Lib.hid hpp
      clear hpp hgT hlT hbT hdT
      unfold TrPost at HGA
      simp only [Option.isSome_some, Option.getD_some, fErr, if_true] at HGA
      go_upto_region 20 with (first
        | (go_at_call 19; (with_reducible refine (HGA.out _ (Hba.out.ext hxT)).mono ?_); rintro e w31 ⟨a1, k1, P1, K1, c1', d1', rfl, hN1, hx31⟩; have hNN := Lib.hid hN1)
        | (refine wpList_store_blk rfl 25 (.tmp 19) (.tmp 111) rfl rfl w31.heap.size #[.slice a1 P1 c1', .slice k1 K1 d1'] rfl rfl _ _ (Blk.new_at rfl _ _) rfl (by kernel_rfl) (by simp [Value.oneCell']) ?_; intro w32 hb32 hg32; have hx32 : Ext w31 w32 := ((Ext.refl _).alloc _).grown_ hg32 (by simp))
        | (refine wpList_load_row_ rfl 25 (.tmp 19) rfl ⟨w31.heap.size, 0, none⟩ rfl [.slice a1 P1 c1', .slice k1 K1 d1'] _ (blk_rowB hb32) Try.underlying25 rfl (by kernel_rfl) ?_)
        | (go_at_call 11; (with_reducible refine (HPP.out a1 k1 P1 K1 c1' d1' _ (hNN.out.ext hx32)).mono ?_); rintro e w33 ⟨⟨v33, rfl, own33⟩, hx33⟩; obtain ⟨A33, k33, e33, l33, _, _⟩ := Own.form_at own33 Hna.out; subst e33; have hcv1 := conv_str (P := Try.prog) Try.underlying35 Try.underlying5 Try.underlying9 (c := k33) Hna.out own33.cells; have hxZ := hxT.trans (hx31.trans (hx32.trans hx33)); have hcv2 := conv_str (P := Try.prog) Try.underlying35 Try.underlying5 Try.underlying9 (c := n3c) Hna.out (Hba.out.ext hxZ)))
      go_wp2
      go_ret
      exact ⟨rfl, hwT.trans (hx31.trans (hx32.trans hx33))⟩
    | none =>
      rw [hdT] at HGA
      clear hdT
      unfold TrPost at HGA
      simp only [Option.isSome_none, Option.getD_none, fErr, if_false, Bool.false_eq_true] at HGA
      go_upto_region 21 with (first
        | (go_at_call 19; (with_reducible refine (HGA.out _ (Hba.out.ext hxT)).mono ?_); rintro e w31 ⟨a1, k1, P1, K1, c1', d1', rfl, hN1, hx31⟩)
        | (refine wpList_store_blk rfl 25 (.tmp 19) (.tmp 111) rfl rfl w31.heap.size #[.slice a1 P1 c1', .slice k1 K1 d1'] rfl rfl _ _ (Blk.new_at rfl _ _) rfl (by kernel_rfl) (by simp [Value.oneCell']) ?_; intro w32 hb32 hg32; have hx32 : Ext w31 w32 := ((Ext.refl _).alloc _).grown_ hg32 (by simp)))
      have hxU := hxT.trans (hx31.trans hx32)
      have hwU := hwT.trans (hx31.trans hx32)
      cases hdC : decC bs with
      | some ct =>
        obtain ⟨hgC, hlC, hbC⟩ := decC_good hdC
        rw [hdC] at HGB
        have hpp := fun qa Q qc w' h' => putCommit_calls ct qa Q qc w' h'
        simp only [hgC, hbC, if_true] at hpp
        have HPP := Lib.hid hpp
        have HLR := Lib.hid hlC.1
        clear hpp hgC hlC hbC hdC
        unfold CmPost at HGB
        simp only [Option.isSome_some, Option.getD_some, fErr, if_true] at HGB
        go_upto_region 24 with (first
          | (go_at_call 23; (with_reducible refine (HGB.out _ (Hba.out.ext hxU)).mono ?_); rintro e w41 ⟨a1, P1, c1', rfl, hN1, hx41⟩; have hNN := Lib.hid hN1)
          | (refine wpList_store_blk rfl 31 (.tmp 23) (.tmp 132) rfl rfl w41.heap.size (cmC ct a1 P1 c1').toArray rfl rfl _ _ (Blk.new_at rfl _ _) (by rw [List.size_toArray, cmC_len _ _ _ _ HLR.out]; rfl) (by kernel_rfl) (cmC_cells _ _ _ _) ?_; intro w42 hb42 hg42; have hx42 : Ext w41 w42 := ((Ext.refl _).alloc _).grown_ hg42 (by simp))
          | (refine wpList_load_row_ rfl 31 (.tmp 23) rfl ⟨w41.heap.size, 0, none⟩ rfl (cmC ct a1 P1 c1') _ (blk_rowB hb42) Try.underlying31 rfl (by rw [cm_info, cmC_len _ _ _ _ HLR.out]) ?_)
          | (go_at_call 12; (with_reducible refine (HPP.out a1 P1 c1' _ (hNN.out.ext hx42)).mono ?_); rintro e w43 ⟨⟨v43, rfl, own43⟩, hx43⟩; obtain ⟨A43, k43, e43, l43, _, _⟩ := Own.form_at own43 Hna.out; subst e43; have hcv1 := conv_str (P := Try.prog) Try.underlying35 Try.underlying5 Try.underlying9 (c := k43) Hna.out own43.cells; have hxZ := hxU.trans (hx41.trans (hx42.trans hx43)); have hcv2 := conv_str (P := Try.prog) Try.underlying35 Try.underlying5 Try.underlying9 (c := n3c) Hna.out (Hba.out.ext hxZ)))
        go_wp2
        go_ret
        exact ⟨rfl, hwU.trans (hx41.trans (hx42.trans hx43))⟩
      | none =>
        rw [hdC] at HGB
        clear hdC
        unfold CmPost at HGB
        simp only [Option.isSome_none, Option.getD_none, fErr, if_false, Bool.false_eq_true] at HGB
        go_wp2_with (first
          | (go_at_call 23; (with_reducible refine (HGB.out _ (Hba.out.ext hxU)).mono ?_); rintro e w41 ⟨a1, P1, c1', rfl, hN1, hx41⟩)
          | (refine wpList_store_blk rfl 31 (.tmp 23) (.tmp 132) rfl rfl w41.heap.size (cmC cmZ a1 P1 c1').toArray rfl rfl _ _ (Blk.new_at rfl _ _) (by rw [List.size_toArray, cmC_len _ _ _ _ idNone_len]; rfl) (by kernel_rfl) (cmC_cells _ _ _ _) ?_; intro w42 hb42 hg42; have hx42 : Ext w41 w42 := ((Ext.refl _).alloc _).grown_ hg42 (by simp)))
        go_ret
        exact ⟨rfl, hwU.trans (hx41.trans hx42)⟩
end Go.Proofs.Ythepbcomeimcnaa
