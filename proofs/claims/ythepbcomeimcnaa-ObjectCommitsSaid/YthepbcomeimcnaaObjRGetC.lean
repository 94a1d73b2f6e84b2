/- The walk of the reference's GetCommit, layer 15. Printed by wip/mkobjrgetc.py. -/
import Derived.Test.YthepbcomeimcnaaObjGetC
import Derived.Test.YthepbcomeimcnaaObjRGet
import Derived.Test.YthepbcomeimcnaaObjRGoodC
namespace Go.Proofs.Ythepbcomeimcnaa
open Go.RowKit
set_option linter.unusedVariables false

theorem c35_of {w : World} {g : Nat} {c : Cm} {A : Option Addr} {n d : Nat} {v : Value} (hb : Blk w g 31 ((cmC c A n d).toArray.setIfInBounds 34 v)) (hr : c.root.length = 33) : w.cell? ⟨g, 35, none⟩ = some (.int .i64 c.num) := by
  have hl : (bv c.root).length = 33 := by rw [bv_len, hr]
  rw [hb.cell, Array.getElem?_setIfInBounds_ne (by decide), List.getElem?_toArray]
  unfold cmC
  rw [List.getElem?_append_right (by omega), hl]
  rfl
theorem rgetc_stays {B gR g2 : Nat} {r : PR} (h1 : gR < B) (h2 : g2 < B) : Stays B (fun u => RRdr u gR r ∧ Blk u g2 31 (cmC cmZ none 0 0).toArray) := by
  intro w w' row h hg hr
  exact ⟨⟨h.1.1.grown hg (fun e => by have := hr gR e.symm; omega), h.1.2⟩, h.2.grown hg (fun e => by have := hr g2 e.symm; omega)⟩
theorem rgetc_after {gR gN g2 : Nat} {r : PR} {u : World} (h : RRdr u gR r ∧ Blk u g2 31 (cmC cmZ none 0 0).toArray) (h1 : gR < gN) (h2 : g2 ≠ gN) (i : Nat) (v : Value) : RRdr (u.setCell ⟨gN, i, none⟩ v) gR r ∧ Blk (u.setCell ⟨gN, i, none⟩ v) g2 31 (cmC cmZ none 0 0).toArray :=
  ⟨⟨h.1.1.far (p := ⟨gN, i, none⟩) (Nat.ne_of_lt h1) v, h.1.2⟩, h.2.far (p := ⟨gN, i, none⟩) h2 v⟩
theorem rgetc_begin {w wA w1 : World} {g2 gR : Nat} {r0 : PR} (hA : Ext w wA) (hb2 : Blk wA g2 31 (cmC cmZ none 0 0).toArray) (h2w : w.heap.size = g2) (h2R : g2 < gR) (hRw : gR < wA.heap.size) (hR1 : RRdr w1 gR r0) (ht1 : Turns wA w1 gR) : Ext w w1 ∧ Blk w1 g2 31 (cmC cmZ none 0 0).toArray ∧ gR < w1.heap.size := by
  have hs1 := ht1.size
  exact ⟨Turns.ext ht1 hA (by omega), hb2.grown ht1 (by intro e; cases e; omega), by omega⟩
/-- Where the commit is begun. -/
theorem rgetc_start {w w2 w3 w4 : World} {g2 gR : Nat} {r0 : PR} {nc : Array Value} (h2w : w.heap.size = g2) (h2R : g2 < gR) (hgw : gR < w2.heap.size) (hx2 : Ext w w2) (hb2 : Blk w2 g2 31 (cmC cmZ none 0 0).toArray) (hR3 : RRdr w3 gR r0) (ht3 : Turns w2 w3 gR) (hx34 : Ext w3 w4) (hN : Blk w4 w3.heap.size 31 nc) :
    OW w w4.heap.size (fun u => RRdr u gR r0 ∧ Blk u g2 31 (cmC cmZ none 0 0).toArray) w3.heap.size 31 nc [⟨28, 33, 0, [], .slice none 0 0⟩] w4 ∧ gR < w3.heap.size ∧ w3.heap.size < w4.heap.size := by
  have hs3 := ht3.size
  have hb4 : Blk w4 g2 31 (cmC cmZ none 0 0).toArray := (hb2.grown ht3 (by intro e; cases e; omega)).ext hx34
  refine ⟨⟨(Turns.ext ht3 hx2 (by omega)).trans hx34, ⟨hR3.ext hx34, hb4⟩, hN, ?_, ?_, Nat.le_refl _⟩, by omega, hN.lt⟩
  · intro i r hi
    match i, hi with
    | 0, hi => cases hi; exact World.ownsRow_nil _ _ _ _
    | n + 1, hi => cases hi
  · intro i j r s _ hi _ k hk
    match i, hi with
    | 0, hi => cases hi; cases hk
    | n + 1, hi => cases hi

set_option maxRecDepth 50000 in
set_option maxHeartbeats 4000000 in
theorem rgetCommit_few (bs : List UInt8) (w : World) (hl : bs.length ≤ 140737488351232) (hf : bs.length < 2) :
    Calls Try.prog 24 #[.string (bstr bs)] w fun e w' => CmPost fOk none w e w' := by
  have htk := fun g w' h' => rrtake_calls g ⟨bs, false⟩ 2 w' h'
  rw [take_few hf] at htk
  go_enter Try.func24, Try.ntmps24
  obtain ⟨g2, hg2⟩ : ∃ g, g = w.heap.size := ⟨_, rfl⟩
  obtain ⟨gR, hgR⟩ : ∃ g, g = w.heap.size + 1 := ⟨_, rfl⟩
  have hA : Ext w ((w.alloc (.cells (cmC cmZ none 0 0).toArray 31)).alloc (.cells #[.string (bstr bs), .bool false] 73)) := ((Ext.refl _).alloc _).alloc _
  have hbA : Blk ((w.alloc (.cells (cmC cmZ none 0 0).toArray 31)).alloc (.cells #[.string (bstr bs), .bool false] 73)) g2 31 (cmC cmZ none 0 0).toArray := by rw [hg2]; exact (Blk.new w _ _).alloc _
  have hRA : RRdr ((w.alloc (.cells (cmC cmZ none 0 0).toArray 31)).alloc (.cells #[.string (bstr bs), .bool false] 73)) gR ⟨bs, false⟩ := ⟨by rw [hgR]; exact Blk.new_at (by simp) _ _, hl⟩
  have hRw : gR < ((w.alloc (.cells (cmC cmZ none 0 0).toArray 31)).alloc (.cells #[.string (bstr bs), .bool false] 73)).heap.size := by rw [hgR]; simp
  have HA := Lib.hid hA
  have HBA := Lib.hid hbA
  have HRA := Lib.hid hRA
  have HRW := Lib.hid hRw
  clear hA hbA hRA hRw
  go_upto_region 3 with (go_at_call 39; (rw [← hgR]; (with_reducible refine Calls.mono (htk gR _ ?hrd) ?_); (case hrd => exact HRA.out); rintro e w1 ⟨rfl, hR1, ht1⟩))
  obtain ⟨hx1, hb1, hRw1⟩ := rgetc_begin HA.out HBA.out hg2.symm (by omega) HRW.out hR1 ht1
  have hl2w : w.heap.size ≤ g2 := by omega
  have H2E := Lib.hid hg2.symm
  have hl2g : g2 < gR := by omega
  try rw [← hgR]
  try rw [← hg2]
  try rw [show g2 + 1 = gR from by omega]
  clear hgR hg2 ht1 HA HBA HRA HRW
  have hgd := rrgood_calls gR _ w1 hR1
  go_wp2_with (first
    | (go_at_call 40; ((with_reducible refine hgd.mono ?_); rintro e w' ⟨rfl, rfl⟩))
    | (refine wpList_store_blk rfl 31 (.tmp 2) (.tmp 26) rfl rfl g2 (cmC cmZ none 0 0).toArray rfl rfl _ _ hb1 rfl (by rw [List.size_toArray, cmC_len _ _ _ _ idNone_len]; kernel_rfl) (cmC_cells _ _ _ _) ?_; intro w5 hb5 hg5))
  refine bodyPost_ret (results_row_tmp (P := Try.prog) (fn := Try.f24) rfl _ _ g2 31 (cmC cmZ none 0 0).toArray _ rfl hb5 Try.underlying31 rfl (by rw [List.size_toArray, cmC_len _ _ _ _ idNone_len]; kernel_rfl)) rfl ?_
  exact cmPost_none rfl (hx1.grown_ hg5 (by intro k hk; cases hk; exact hl2w)) rfl

set_option maxRecDepth 50000 in
set_option maxHeartbeats 4000000 in
theorem rgetCommit_head (h n1 : UInt8) (b bs : List UInt8) (w : World) (hbs : Hid (bs = h :: n1 :: b)) (hl : bs.length ≤ 140737488351232) (hf : ¬ (h = 3 ∧ n1.toNat ≤ 2)) :
    Calls Try.prog 24 #[.string (bstr bs)] w fun e w' => CmPost fOk none w e w' := by
  have htk := fun g w' h' => rrtake_calls g ⟨bs, false⟩ 2 w' h'
  rw [hbs.out, take_two] at htk
  rw [← hbs.out] at htk
  have hsz : (bstr [h, n1]).size = 2 := bstr_size _
  have hget0 : ∀ h' : 0 < (bstr [h, n1]).size, (bstr [h, n1])[0]'h' = h := fun h' => bstr_get (bs := [h, n1]) (j := 0) (by show 0 < 2; decide) h'
  have hget1 : ∀ h' : 1 < (bstr [h, n1]).size, (bstr [h, n1])[1]'h' = n1 := fun h' => bstr_get (bs := [h, n1]) (j := 1) (by show 1 < 2; decide) h'
  by_cases h3 : (h.toNat : Int) = 3
  · have hgt : (2 : Int) < (n1.toNat : Int) := by
      have : ¬ n1.toNat ≤ 2 := fun h2 => hf ⟨UInt8.toNat_inj.1 (by show h.toNat = 3; omega), h2⟩
      omega
    have hne3 : (((h.toNat : Int) != 3) : Bool) = false := by rw [h3]; rfl
    clear hf h3
    go_enter Try.func24, Try.ntmps24
    obtain ⟨g2, hg2⟩ : ∃ g, g = w.heap.size := ⟨_, rfl⟩
    obtain ⟨gR, hgR⟩ : ∃ g, g = w.heap.size + 1 := ⟨_, rfl⟩
    have hA : Ext w ((w.alloc (.cells (cmC cmZ none 0 0).toArray 31)).alloc (.cells #[.string (bstr bs), .bool false] 73)) := ((Ext.refl _).alloc _).alloc _
    have hbA : Blk ((w.alloc (.cells (cmC cmZ none 0 0).toArray 31)).alloc (.cells #[.string (bstr bs), .bool false] 73)) g2 31 (cmC cmZ none 0 0).toArray := by rw [hg2]; exact (Blk.new w _ _).alloc _
    have hRA : RRdr ((w.alloc (.cells (cmC cmZ none 0 0).toArray 31)).alloc (.cells #[.string (bstr bs), .bool false] 73)) gR ⟨bs, false⟩ := ⟨by rw [hgR]; exact Blk.new_at (by simp) _ _, hl⟩
    have hRw : gR < ((w.alloc (.cells (cmC cmZ none 0 0).toArray 31)).alloc (.cells #[.string (bstr bs), .bool false] 73)).heap.size := by rw [hgR]; simp
    have HA := Lib.hid hA
    have HBA := Lib.hid hbA
    have HRA := Lib.hid hRA
    have HRW := Lib.hid hRw
    clear hA hbA hRA hRw
    go_upto_region 3 with (go_at_call 39; (rw [← hgR]; (with_reducible refine Calls.mono (htk gR _ ?hrd) ?_); (case hrd => exact HRA.out); rintro e w1 ⟨rfl, hR1, ht1⟩))
    obtain ⟨hx1, hb1, hRw1⟩ := rgetc_begin HA.out HBA.out hg2.symm (by omega) HRW.out hR1 ht1
    have hl2w : w.heap.size ≤ g2 := by omega
    have H2E := Lib.hid hg2.symm
    have hl2g : g2 < gR := by omega
    try rw [← hgR]
    try rw [← hg2]
    try rw [show g2 + 1 = gR from by omega]
    clear hgR hg2 ht1 HA HBA HRA HRW
    have hgd := rrgood_calls gR _ w1 hR1
    go_wp2_with (first
      | (go_at_call 40; ((with_reducible refine hgd.mono ?_); rintro e w' ⟨rfl, rfl⟩))
      | (refine wpList_store_blk rfl 31 (.tmp 2) (.tmp 26) rfl rfl g2 (cmC cmZ none 0 0).toArray rfl rfl _ _ hb1 rfl (by rw [List.size_toArray, cmC_len _ _ _ _ idNone_len]; kernel_rfl) (cmC_cells _ _ _ _) ?_; intro w5 hb5 hg5))
    refine bodyPost_ret (results_row_tmp (P := Try.prog) (fn := Try.f24) rfl _ _ g2 31 (cmC cmZ none 0 0).toArray _ rfl hb5 Try.underlying31 rfl (by rw [List.size_toArray, cmC_len _ _ _ _ idNone_len]; kernel_rfl)) rfl ?_
    exact cmPost_none rfl (hx1.grown_ hg5 (by intro k hk; cases hk; exact hl2w)) rfl
  · have hne3 : (((h.toNat : Int) != 3) : Bool) = true := bne_iff_ne.2 h3
    clear hf
    go_enter Try.func24, Try.ntmps24
    obtain ⟨g2, hg2⟩ : ∃ g, g = w.heap.size := ⟨_, rfl⟩
    obtain ⟨gR, hgR⟩ : ∃ g, g = w.heap.size + 1 := ⟨_, rfl⟩
    have hA : Ext w ((w.alloc (.cells (cmC cmZ none 0 0).toArray 31)).alloc (.cells #[.string (bstr bs), .bool false] 73)) := ((Ext.refl _).alloc _).alloc _
    have hbA : Blk ((w.alloc (.cells (cmC cmZ none 0 0).toArray 31)).alloc (.cells #[.string (bstr bs), .bool false] 73)) g2 31 (cmC cmZ none 0 0).toArray := by rw [hg2]; exact (Blk.new w _ _).alloc _
    have hRA : RRdr ((w.alloc (.cells (cmC cmZ none 0 0).toArray 31)).alloc (.cells #[.string (bstr bs), .bool false] 73)) gR ⟨bs, false⟩ := ⟨by rw [hgR]; exact Blk.new_at (by simp) _ _, hl⟩
    have hRw : gR < ((w.alloc (.cells (cmC cmZ none 0 0).toArray 31)).alloc (.cells #[.string (bstr bs), .bool false] 73)).heap.size := by rw [hgR]; simp
    have HA := Lib.hid hA
    have HBA := Lib.hid hbA
    have HRA := Lib.hid hRA
    have HRW := Lib.hid hRw
    clear hA hbA hRA hRw
    go_upto_region 3 with (go_at_call 39; (rw [← hgR]; (with_reducible refine Calls.mono (htk gR _ ?hrd) ?_); (case hrd => exact HRA.out); rintro e w1 ⟨rfl, hR1, ht1⟩))
    obtain ⟨hx1, hb1, hRw1⟩ := rgetc_begin HA.out HBA.out hg2.symm (by omega) HRW.out hR1 ht1
    have hl2w : w.heap.size ≤ g2 := by omega
    have H2E := Lib.hid hg2.symm
    have hl2g : g2 < gR := by omega
    try rw [← hgR]
    try rw [← hg2]
    try rw [show g2 + 1 = gR from by omega]
    clear hgR hg2 ht1 HA HBA HRA HRW
    have hgd := rrgood_calls gR _ w1 hR1
    go_wp2_with (first
      | (go_at_call 40; ((with_reducible refine hgd.mono ?_); rintro e w' ⟨rfl, rfl⟩))
      | (refine wpList_store_blk rfl 31 (.tmp 2) (.tmp 26) rfl rfl g2 (cmC cmZ none 0 0).toArray rfl rfl _ _ hb1 rfl (by rw [List.size_toArray, cmC_len _ _ _ _ idNone_len]; kernel_rfl) (cmC_cells _ _ _ _) ?_; intro w5 hb5 hg5))
    refine bodyPost_ret (results_row_tmp (P := Try.prog) (fn := Try.f24) rfl _ _ g2 31 (cmC cmZ none 0 0).toArray _ rfl hb5 Try.underlying31 rfl (by rw [List.size_toArray, cmC_len _ _ _ _ idNone_len]; kernel_rfl)) rfl ?_
    exact cmPost_none rfl (hx1.grown_ hg5 (by intro k hk; cases hk; exact hl2w)) rfl

set_option maxRecDepth 50000 in
set_option maxHeartbeats 16000000 in
theorem rgetCommit_main (n1 : UInt8) (b bs : List UInt8) (w : World) (hbs : Hid (bs = 3 :: n1 :: b)) (hl : bs.length ≤ 140737488351232) (cnt : Nat) (hcnt : n1.toNat = cnt) (hc2 : cnt ≤ 2) :
    Calls Try.prog 24 #[.string (bstr bs)] w fun e w' => CmPost fOk (decCB n1 b) w e w' := by
  have hr0 : (PR.mk b false).Ok := fun h => by cases h
  have hbl : b.length ≤ 140737488351232 := by rw [hbs.out] at hl; simp only [List.length_cons] at hl; omega
  have hng : ¬ (2 : Int) < (cnt : Int) := by omega
  have htk := fun g w' h' => rrtake_calls g ⟨bs, false⟩ 2 w' h'
  rw [hbs.out, take_two] at htk
  rw [← hbs.out] at htk
  have hgd0 := fun g w' h' => rrgood_calls g ⟨b, false⟩ w' h'
  have hid0 := fun g w' h' => rname15_calls g ⟨b, false⟩ w' h' hr0
  have hrest := pid_rest ⟨b, false⟩
  have hpok := hr0.pid
  have hx33 := pid_len ⟨b, false⟩
  have hdec : decCB n1 b = if (!(cmR cnt b).bad && (cmR cnt b).b.length == 0) && (cmOf cnt b).good then some (cmOf cnt b) else none := by
    unfold decCB
    rw [hcnt]
  unfold cmOf cmR cmSt at hdec
  obtain ⟨x0, r0, hpe⟩ : ∃ x r, pid ⟨b, false⟩ = (x, r) := ⟨_, _, rfl⟩
  rw [hpe] at hid0 hdec hrest hpok hx33
  simp only at hrest hdec
  have hbl0 : r0.b.length ≤ 140737488351232 := by omega
  have HB : Hid r0.Ok := Lib.hid hpok
  have HX : Hid (x0.length = 33) := Lib.hid hx33
  have HD := Lib.hid hdec
  clear hpe hdec hrest hpok hx33 hbl
  generalize hdd : decCB n1 b = dd at HD ⊢
  clear hdd
  have hxs : ∀ A n d, (cmC ⟨x0, [], ByteArray.empty, 0⟩ A n d).length = 36 := fun A n d => cmC_len _ _ _ _ HX.out
  have hsz : (bstr [3, n1]).size = 2 := bstr_size _
  have hget0 : ∀ h' : 0 < (bstr [3, n1]).size, (bstr [3, n1])[0]'h' = 3 := fun h' => bstr_get (bs := [3, n1]) (j := 0) (by show 0 < 2; decide) h'
  have hget1 : ∀ h' : 1 < (bstr [3, n1]).size, (bstr [3, n1])[1]'h' = n1 := fun h' => bstr_get (bs := [3, n1]) (j := 1) (by show 1 < 2; decide) h'
  unfold idv at hid0
  go_enter Try.func24, Try.ntmps24
  obtain ⟨g2, hg2⟩ : ∃ g, g = w.heap.size := ⟨_, rfl⟩
  obtain ⟨gR, hgR⟩ : ∃ g, g = w.heap.size + 1 := ⟨_, rfl⟩
  have hA : Ext w ((w.alloc (.cells (cmC cmZ none 0 0).toArray 31)).alloc (.cells #[.string (bstr bs), .bool false] 73)) := ((Ext.refl _).alloc _).alloc _
  have hbA : Blk ((w.alloc (.cells (cmC cmZ none 0 0).toArray 31)).alloc (.cells #[.string (bstr bs), .bool false] 73)) g2 31 (cmC cmZ none 0 0).toArray := by rw [hg2]; exact (Blk.new w _ _).alloc _
  have hRA : RRdr ((w.alloc (.cells (cmC cmZ none 0 0).toArray 31)).alloc (.cells #[.string (bstr bs), .bool false] 73)) gR ⟨bs, false⟩ := ⟨by rw [hgR]; exact Blk.new_at (by simp) _ _, hl⟩
  have hRw : gR < ((w.alloc (.cells (cmC cmZ none 0 0).toArray 31)).alloc (.cells #[.string (bstr bs), .bool false] 73)).heap.size := by rw [hgR]; simp
  have HA := Lib.hid hA
  have HBA := Lib.hid hbA
  have HRA := Lib.hid hRA
  have HRW := Lib.hid hRw
  clear hA hbA hRA hRw
  go_upto_region 3 with (go_at_call 39; (rw [← hgR]; (with_reducible refine Calls.mono (htk gR _ ?hrd) ?_); (case hrd => exact HRA.out); rintro e w1 ⟨rfl, hR1, ht1⟩))
  obtain ⟨hx1, hb1, hRw1⟩ := rgetc_begin HA.out HBA.out hg2.symm (by omega) HRW.out hR1 ht1
  have hl2w : w.heap.size ≤ g2 := by omega
  have H2E := Lib.hid hg2.symm
  have hl2g : g2 < gR := by omega
  try rw [← hgR]
  try rw [← hg2]
  try rw [show g2 + 1 = gR from by omega]
  clear hgR hg2 ht1 HA HBA HRA HRW
  go_upto_region 7 with (first
    | (go_at_call 40; (with_reducible refine (hgd0 gR _ hR1).mono ?_); rintro e w' ⟨rfl, rfl⟩)
    | (go_at_call 42; (with_reducible refine (hid0 gR _ hR1).mono ?_); rintro e w3 ⟨rfl, hR3, ht3⟩)
    | (refine wpList_plain rfl fun _ hK => wp_val (exec_build rfl (by rw [arr1]; rfl)) (build_cm1 _ x0 HX.out) (hK _ _ ?_))
    | (refine wpList_store_blk rfl 31 (.tmp 6) (.tmp 29) rfl rfl w3.heap.size (cmC ⟨x0, [], ByteArray.empty, 0⟩ none 0 0).toArray rfl rfl _ _ (Blk.new_at rfl _ _) (by rw [List.size_toArray, hxs]; rfl) (by kernel_rfl) (cmC_cells _ _ _ _) ?_; intro w4 hb4 hg4; have hx34 : Ext w3 w4 := ((Ext.refl _).alloc _).grown_ hg4 (by simp); obtain ⟨hS, hlRN', hlNB'⟩ := rgetc_start H2E.out hl2g hRw1 hx1 hb1 hR3 ht3 hx34 hb4))
  obtain ⟨B, hB⟩ : ∃ B, B = w4.heap.size := ⟨_, rfl⟩
  obtain ⟨gN, hgN⟩ : ∃ g, g = w3.heap.size := ⟨_, rfl⟩
  have hl0B : w.heap.size ≤ B := by omega
  have hl0N : w.heap.size ≤ gN := by omega
  have hlRN : gR < gN := by omega
  have hlNB : gN < B := by omega
  have hlRB : gR < B := by omega
  have hl2B : g2 < B := by omega
  have hl0R : w.heap.size ≤ gR := by omega
  rw [← hB, ← hgN] at hS
  rw [← hgN]
  clear hB hgN hlRN' hlNB' hR3 hR1 ht3 hx1 htk hgd0 hid0 hb1 hRw1 hx34 hb4 hg4
  go_loopg [7] cnt (fun gk i wr => ∃ (j : Nat) (D : ISt) (A1 : Option Addr) (c1 : Nat), i = .int .i64 j ∧ j + gk = cnt ∧ Hid (D = isteps r0 j) ∧ OW w B (fun u => RRdr u gR D.r ∧ Blk u g2 31 (cmC cmZ none 0 0).toArray) gN 31 (cmC ⟨x0, [], ByteArray.empty, 0⟩ A1 j c1).toArray [⟨28, 33, j, (D.ids.map bv).flatten, .slice A1 j c1⟩] wr)
  case atStart => exact ⟨0, isteps r0 0, none, 0, rfl, by omega, Lib.hid rfl, hS⟩
  case round =>
    obtain ⟨j, D, A1, c1, rfl, hjk, hD, hX0⟩ := hrel
    have hDok := Lib.hid (show D.r.Ok by rw [hD.out]; exact isteps_ok HB.out j)
    by_cases hlt : j < cnt
    · obtain ⟨gk', rfl⟩ : ∃ k, gk = k + 1 := ⟨gk - 1, by omega⟩
      have hltI : (j : Int) < ((gk' + 1 + j : Nat) : Int) := by omega
      go_upto_region 9 with (fail)
      refine wp_region_opsC (CInv [37, 38, 39, 40, 41, 42, 43] _ [(0, 37, .pointer (some ⟨gN, 33, none⟩)), (1, 38, .slice A1 j c1), (2, 39, .pointer (some ⟨gR, 0, none⟩)), (6, 43, .pointer (some ⟨gN, 33, none⟩))] [(3, some 40), (4, some 41), (5, some 42), (7, none)] (PushW (OW w B (fun u => RRdr u gR D.r ∧ Blk u g2 31 (cmC cmZ none 0 0).toArray) gN 31 ((cmC ⟨x0, [], ByteArray.empty, 0⟩ A1 j c1).toArray) [⟨28, 33, j, (D.ids.map bv).flatten, .slice A1 j c1⟩]) (OW w B (fun u => RRdr u gR (pid D.r).2 ∧ Blk u g2 31 (cmC cmZ none 0 0).toArray) gN 31 ((cmC ⟨x0, [], ByteArray.empty, 0⟩ A1 j c1).toArray) [⟨28, 33, j, (D.ids.map bv).flatten, .slice A1 j c1⟩]) ((idv (pid D.r).1)) (bv (pid D.r).1) (fun v => OW w B (fun u => RRdr u gR (pid D.r).2 ∧ Blk u g2 31 (cmC cmZ none 0 0).toArray) gN 31 ((cmC ⟨x0, [], ByteArray.empty, 0⟩ A1 j c1).toArray) [⟨28, 33, j + 1, (D.ids.map bv).flatten ++ (bv (pid D.r).1), v⟩]) (fun v => OW w B (fun u => RRdr u gR (pid D.r).2 ∧ Blk u g2 31 (cmC cmZ none 0 0).toArray) gN 31 (((cmC ⟨x0, [], ByteArray.empty, 0⟩ A1 j c1).toArray).setIfInBounds 33 v) [⟨28, 33, j + 1, (D.ids.map bv).flatten ++ (bv (pid D.r).1), v⟩]))) (by kernel_rfl) (by kernel_rfl) (CInv.start (OW.more hX0 (rgetc_stays hlRB hl2B) ((Ext.refl _).drew))) ?_ ?_
      · refine ⟨?o0, ?o1, ?o2, ?o3, ?o4, ?o5, ?o6, ?o7, trivial⟩
        case o0 =>
          intro f a u h hfi hp hq hcl
          have q6 : a.tmps[6]?.getD undef = .pointer (some ⟨gN, 0, none⟩) := h.agree.att (by decide)
          exact h.yield rfl rfl 37 rfl (by change 37 < 60; decide) rfl _ rfl (by go_simp)
        case o1 =>
          intro f a u h hfi hp hq hcl
          have q37 := h.att 0 rfl (pre_of hp 0 rfl)
          obtain ⟨xs, hx, hl⟩ := h.before 2 rfl (hq 5 _ rfl rfl)
          have hN := PushW.ahead (N := fun u => Blk u gN 31 ((cmC ⟨x0, [], ByteArray.empty, 0⟩ A1 j c1).toArray)) hx (by omega) (fun _ h => h.nod) (fun _ h => h.nod) (fun _ _ h => h.nod)
          have c1 : u.cell? ⟨gN, 33, none⟩ = some (.slice A1 j c1) := (cm_cells hN HX.out).2.1
          clear hN hx
          exact h.yield rfl rfl 38 rfl (by change 38 < 60; decide) rfl _ rfl (by go_simp)
        case o2 =>
          intro f a u h hfi hp hq hcl
          have q4 : a.tmps[4]?.getD undef = .pointer (some ⟨gR, 0, none⟩) := h.agree.att (by decide)
          exact h.yield rfl rfl 39 rfl (by change 39 < 60; decide) rfl _ rfl (by go_simp)
        case o3 =>
          intro f a u h hfi hp hq hcl
          refine h.link hfi rfl rfl 0 _ rfl rfl (fun t ht => by cases ht; change 40 < 60; decide) rfl (fun k c d' hk hc => by omega) ?_
          intro xs hl hX hv
          obtain rfl : xs = [] := List.eq_nil_of_length_eq_zero hl
          have hX : OW w B (fun u => RRdr u gR D.r ∧ Blk u g2 31 (cmC cmZ none 0 0).toArray) gN 31 ((cmC ⟨x0, [], ByteArray.empty, 0⟩ A1 j c1).toArray) [⟨28, 33, j, (D.ids.map bv).flatten, .slice A1 j c1⟩] u := hX
          refine wp_call 42 #[.tmp 39] #[71] _ rfl (by kernel_rfl) (by rw [arr1, h.at_ 2 rfl (pre_of hp 2 rfl)]) (Calls.mono (rname15_calls gR D.r _ hX.rd.1 hDok.out) ?_)
          rintro e u' ⟨rfl, hr1, ht1⟩
          exact ⟨_, rfl, _, rfl, rfl, hX.turn ht1 ⟨hr1, hX.rd.2.grown ht1 (by intro e; cases e; omega)⟩ (fun k hk => by cases hk; exact ⟨by omega, by omega, by omega⟩)⟩
        case o4 =>
          intro f a u h hfi hp hq hcl
          refine h.link hfi rfl rfl 1 _ rfl rfl (fun t ht => by cases ht; change 41 < 60; decide) rfl (fun k c d' hk hc => by (have hk0 : k = 0 := (by omega)); subst hk0; cases hc; exact (pre_of hp 3 rfl)) ?_
          intro xs hl hX hv
          obtain ⟨s, rfl⟩ := len1 hl
          obtain ⟨hs, hX⟩ : s = _ ∧ OW w B (fun u => RRdr u gR (pid D.r).2 ∧ Blk u g2 31 (cmC cmZ none 0 0).toArray) gN 31 ((cmC ⟨x0, [], ByteArray.empty, 0⟩ A1 j c1).toArray) [⟨28, 33, j, (D.ids.map bv).flatten, .slice A1 j c1⟩] u := hX
          have e40 := (hv 0 _ _ rfl (by decide)).trans hs
          refine wp_val (exec_buildSlice rfl (by rw [arr1]; simp only [show a.eval (.tmp 40) = _ from e40]; rfl)) (lit1_id _ _ (pid_len _)) ?_
          exact ⟨_, rfl, hs, ⟨_, rfl, Cells.lit rfl (bv (pid D.r).1) _ _⟩, hX.more (rgetc_stays hlRB hl2B) ((Ext.refl _).alloc _)⟩
        case o5 =>
          intro f a u h hfi hp hq hcl
          refine h.link hfi rfl rfl 2 _ rfl rfl (fun t ht => by cases ht; change 42 < 60; decide) rfl (fun k c d' hk hc => by (have hk0 : k = 1 := (by omega)); subst hk0; cases hc; exact (pre_of hp 4 rfl)) ?_
          intro xs hl hX hv
          obtain ⟨s, l, rfl⟩ := len2 hl
          obtain ⟨hs, ⟨g, rfl, hc⟩, hX⟩ : s = _ ∧ (∃ g, l = _ ∧ _) ∧ OW w B (fun u => RRdr u gR (pid D.r).2 ∧ Blk u g2 31 (cmC cmZ none 0 0).toArray) gN 31 ((cmC ⟨x0, [], ByteArray.empty, 0⟩ A1 j c1).toArray) [⟨28, 33, j, (D.ids.map bv).flatten, .slice A1 j c1⟩] u := hX
          have el := hv 1 _ _ rfl (by decide)
          refine wp_append u (.tmp 38) (.tmp 41) 29 rfl B 28 (.agg (bv idNone).toArray) 33 33 Try.underlying29 (by kernel_rfl) rfl (by decide) _ j _ (h.at_ 1 rfl (pre_of hp 1 rfl)) (hX.own 0 _ rfl) (some ⟨g, 0, none⟩) 1 1 (bv (pid D.r).1) el (by rw [bv_len, pid_len]) hc (bv_cells _) (by simp only [maxLen]; omega) (by omega) hX.hB ?_
          intro v' u' ho hg hf
          exact ⟨_, rfl, hs, hX.app (rgetc_stays hlRB hl2B) hlNB hl0B (i := 0) rfl ho hg hf⟩
        case o6 =>
          intro f a u h hfi hp hq hcl
          have q6 : a.tmps[6]?.getD undef = .pointer (some ⟨gN, 0, none⟩) := h.agree.att (by decide)
          exact h.yield rfl rfl 43 rfl (by change 43 < 60; decide) rfl _ rfl (by go_simp)
        case o7 =>
          intro f a u h hfi hp hq hcl
          refine h.link hfi rfl rfl 3 _ rfl rfl (fun t ht => by cases ht) rfl (fun k c d' hk hc => by (have hk0 : k = 2 := (by omega)); subst hk0; cases hc; exact (pre_of hp 5 rfl)) ?_
          intro xs hl hX hv
          obtain ⟨s, l, v, rfl⟩ := len3 hl
          obtain ⟨hs, hX⟩ : s = _ ∧ OW w B (fun u => RRdr u gR (pid D.r).2 ∧ Blk u g2 31 (cmC cmZ none 0 0).toArray) gN 31 ((cmC ⟨x0, [], ByteArray.empty, 0⟩ A1 j c1).toArray) [⟨28, 33, j + 1, (D.ids.map bv).flatten ++ (bv (pid D.r).1), v⟩] u := hX
          have ev := hv 2 _ _ rfl (by decide)
          obtain ⟨Av, cv, hvv, _, _, _⟩ := own_form (hX.own 0 _ rfl) (by show 0 < 33; decide)
          have hvv : v = .slice Av (j + 1) cv := hvv
          subst hvv
          have c1 : u.cell? ⟨gN, 33, none⟩ = some (.slice A1 j c1) := (cm_cells hX.nod HX.out).2.1
          have f1 := hX.nod.frozen 33
          refine wp_store_cell 29 (.tmp 43) (.tmp 42) rfl rfl (h.at_ 3 rfl (pre_of hp 6 rfl)) ev (st_ids _ _ _ _ _ _ c1 f1) ?_
          exact ⟨.tuple #[], rfl, hs, hX.sto (grown_set u gN 33 _) (blk_set hX.nod 33 _) (rgetc_after hX.rd hlRN (by omega) _ _) hlNB hl0N⟩
      · intro f a u h hall hfar
        obtain ⟨xs, hxl, hX, hv⟩ := h.done (by intro c hc; simp only [List.mem_cons, List.not_mem_nil, or_false] at hc; rcases hc with rfl | rfl | rfl | rfl; all_goals exact hall _ (by decide))
        obtain ⟨s, l, v, t, rfl⟩ := len4 hxl
        have hX : OW w B (fun u => RRdr u gR (pid D.r).2 ∧ Blk u g2 31 (cmC cmZ none 0 0).toArray) gN 31 (((cmC ⟨x0, [], ByteArray.empty, 0⟩ A1 j c1).toArray).setIfInBounds 33 v) [⟨28, 33, j + 1, (D.ids.map bv).flatten ++ (bv (pid D.r).1), v⟩] u := hX.2
        have hag := h.agree.out
        simp only [List.foldl_cons, List.foldl_nil, Act.put, List.setIfInBounds_toArray, List.set_cons_zero, List.set_cons_succ] at hag
        generalize a.eval (.tmp 37) = y37 at hag
        generalize a.eval (.tmp 38) = y38 at hag
        generalize a.eval (.tmp 39) = y39 at hag
        generalize a.eval (.tmp 40) = y40 at hag
        generalize a.eval (.tmp 41) = y41 at hag
        generalize a.eval (.tmp 42) = y42 at hag
        generalize a.eval (.tmp 43) = y43 at hag
        clear h hall hfar hxl hv
        subst hag
        obtain ⟨Av1, cv1, hvv, lv, mv, hcv⟩ := own_form (hX.own 0 _ rfl) (by show 0 < 33; decide)
        have hvv : v = .slice Av1 (j + 1) cv1 := hvv
        subst hvv
        clear lv mv hcv
        rw [cmC_put _ _ _ _ _ _ _ HX.out, ids_snoc] at hX
        go_wp2
        go_roundg gk'
        case measure => omega
        case rel => exact ⟨j + 1, ⟨D.ids ++ [(pid D.r).1], (pid D.r).2⟩, Av1, cv1, by go_num, by omega, Lib.hid (by show _ = (⟨(isteps r0 j).ids ++ [(pid (isteps r0 j).r).1], (pid (isteps r0 j).r).2⟩ : ISt); rw [← hD.out]), hX⟩
    · obtain rfl : j = cnt := by omega
      clear hlt hS
      have hge : ¬ (j : Int) < (j : Int) := by omega
      have htx := fun w' h' => rrtext_calls gR D.r 32 w' h' (by decide)
      have hin := fun w' h' => rrint_calls gR (D.r.text 32).2 w' h'
      have hlen := isteps_len r0 j
      obtain ⟨hsz33, hrb⟩ := isteps_sizes r0 j
      have htr := text_rest' D.r 32
      have hzl := PR.uint_lt (D.r.text 32).2
      rw [← hD.out] at HD hlen hsz33 hrb
      obtain ⟨y, q1, hty⟩ : ∃ y q, D.r.text 32 = (y, q) := ⟨_, _, rfl⟩
      rw [hty] at htx hin HD htr hzl
      simp only at htr hin HD hzl
      obtain ⟨m, q2, hiy⟩ : ∃ m q, q1.int = (m, q) := ⟨_, _, rfl⟩
      have hm : m = zag q1.uint.1 := by have := congrArg Prod.fst hiy; exact this.symm
      have hmb := zag_lo hzl
      rw [← hm] at hmb
      rw [hiy] at hin HD
      simp only at HD
      have hend := fun w' h' => rrend_calls gR q2 w' h'
      clear hm hzl hty hiy hD hDok
      go_upto_region 11 with (go_at_call 41; ((with_reducible refine (htx _ hX0.rd.1).mono ?_); rintro e wt ⟨rfl, hrt, htt⟩; have hX1 := hX0.turn (RP' := fun u => RRdr u gR q1 ∧ Blk u g2 31 (cmC cmZ none 0 0).toArray) htt ⟨hrt, hX0.rd.2.grown htt (by intro e; cases e; omega)⟩ (fun k hk => by cases hk; exact ⟨by omega, by omega, by omega⟩); obtain ⟨_, c33, c34, c35⟩ := cm_cells hX1.nod HX.out; have f34 := hX1.nod.frozen 34))
      have hX2 := hX1.sto (grown_set wt gN 34 (.string (bstr y))) (blk_set hX1.nod 34 _) (rgetc_after hX1.rd hlRN (by omega) _ _) hlNB hl0N
      obtain ⟨wb, hwb⟩ : ∃ wb, wb = wt.setCell ⟨gN, 34, none⟩ (.string (bstr y)) := ⟨_, rfl⟩
      rw [← hwb] at hX2 ⊢
      clear hwb c33 c34 c35 f34 hX1 hX0 hrt htt htx
      go_upto_region 12 with (go_at_call 45; ((with_reducible refine (hin _ hX2.rd.1).mono ?_); rintro e wi ⟨rfl, hri, hti⟩; have hX3 := hX2.turn (RP' := fun u => RRdr u gR q2 ∧ Blk u g2 31 (cmC cmZ none 0 0).toArray) hti ⟨hri, hX2.rd.2.grown hti (by intro e; cases e; omega)⟩ (fun k hk => by cases hk; exact ⟨by omega, by omega, by omega⟩); have c35 := c35_of hX3.nod HX.out; have f35 := hX3.nod.frozen 35))
      have hX4 := hX3.sto (grown_set wi gN 35 (.int .i64 m)) (blk_set hX3.nod 35 _) (rgetc_after hX3.rd hlRN (by omega) _ _) hlNB hl0N
      rw [cmC_end x0 [] D.ids ByteArray.empty (bstr y) 0 m A1 j c1 HX.out] at hX4
      obtain ⟨we, hwe⟩ : ∃ we, we = wi.setCell ⟨gN, 35, none⟩ (.int .i64 m) := ⟨_, rfl⟩
      rw [← hwe] at hX4 ⊢
      clear hwe hX3 hX2 c35 f35 hri hti hin
      obtain ⟨cc, hcc⟩ : ∃ cc : Cm, cc = ⟨x0, D.ids, bstr y, m⟩ := ⟨_, rfl⟩
      rw [← hcc] at hX4 HD
      have hNd : CmAt we cc A1 j c1 := by
        subst hcc
        exact getc_fin _ hX4 HX.out hlen (by omega) hsz33 (by rw [bstr_size]; omega) hmb.1 hmb.2
      have hf1 := ow_addr hX4 0 rfl rfl
      have hcr : cc.root.length = 33 := by rw [hcc]; exact HX.out
      have Hcr := Lib.hid hcr
      have HNd := Lib.hid hNd
      have HN := Lib.hid hX4.nod
      have hres := hX4.rd.2
      have hxe := hX4.ext
      have hrd := hX4.rd.1
      have HC := Lib.hid (show ∀ i v, (cmC cc A1 j c1)[i]? = some v → we.cell? ((⟨gN, 0, none⟩ : Addr).add i) = some v from fun i v hv => by rw [add_new, HN.out.cell, ← Array.getElem?_toList, List.toList_toArray]; exact hv)
      have hcl : (cmC cc A1 j c1).length = 36 := cmC_len _ _ _ _ hcr
      clear hX4 hNd hcc hcr hlen hsz33 hrb htr hmb
      cases hbad : q2.end_ with
      | false =>
        rw [hbad] at hend
        have hdn : dd = none := by
          rw [HD.out]
          unfold PR.end_ at hbad
          rw [hbad]
          rfl
        go_wp2_with (first
          | (go_at_call 43; ((with_reducible refine (hend _ hrd).mono ?_); rintro e w' ⟨rfl, rfl⟩))
          | (refine wpList_store_blk rfl 31 (.tmp 2) (.tmp 58) rfl rfl g2 (cmC cmZ none 0 0).toArray rfl rfl _ _ hres rfl (by rw [List.size_toArray, cmC_len _ _ _ _ idNone_len]; kernel_rfl) (cmC_cells _ _ _ _) ?_; intro w5 hb5 hg5))
        refine bodyPost_ret (results_row_tmp (P := Try.prog) (fn := Try.f24) rfl _ _ g2 31 (cmC cmZ none 0 0).toArray _ rfl hb5 Try.underlying31 rfl (by rw [List.size_toArray, cmC_len _ _ _ _ idNone_len]; kernel_rfl)) rfl ?_
        exact cmPost_none rfl (hxe.grown_ hg5 (by intro k hk; cases hk; exact hl2w)) hdn
      | true =>
        rw [hbad] at hend
        unfold PR.end_ at hbad
        have hgc := rgoodCommit_calls cc A1 j c1 we HNd.out
        cases hg : cc.good with
        | false =>
          rw [hg] at hgc
          have hdn : dd = none := by rw [HD.out, hbad, hg]; rfl
          go_wp2_with (first
            | (go_at_call 43; ((with_reducible refine (hend _ hrd).mono ?_); rintro e w' ⟨rfl, rfl⟩))
            | (refine wpList_load_row_g (g := 3) (d' := 53) rfl rfl rfl 31 (.tmp 6) rfl ⟨gN, 0, none⟩ rfl (cmC cc A1 j c1) _ HC.out Try.underlying31 rfl (by rw [cm_info, hcl]) ?_)
            | (refine wp_load_row_ 31 (.tmp 6) rfl ⟨gN, 0, none⟩ rfl (cmC cc A1 j c1) _ HC.out Try.underlying31 rfl (by rw [cm_info, hcl]) ?_)
            | (go_at_call 21; ((with_reducible refine hgc.mono ?_); rintro e w4' ⟨rfl, hx4⟩; have hres4 := hres.ext hx4))
            | (refine wpList_store_blk rfl 31 (.tmp 2) (.tmp 58) rfl rfl g2 (cmC cmZ none 0 0).toArray rfl rfl _ _ hres4 rfl (by rw [List.size_toArray, cmC_len _ _ _ _ idNone_len]; kernel_rfl) (cmC_cells _ _ _ _) ?_; intro w5 hb5 hg5))
          refine bodyPost_ret (results_row_tmp (P := Try.prog) (fn := Try.f24) rfl _ _ g2 31 (cmC cmZ none 0 0).toArray _ rfl hb5 Try.underlying31 rfl (by rw [List.size_toArray, cmC_len _ _ _ _ idNone_len]; kernel_rfl)) rfl ?_
          exact cmPost_none rfl ((hxe.trans hx4).grown_ hg5 (by intro k hk; cases hk; exact hl2w)) hdn
        | true =>
          rw [hg] at hgc
          have hds : dd = some cc := by rw [HD.out, hbad, hg]; rfl
          go_wp2_with (first
            | (go_at_call 43; ((with_reducible refine (hend _ hrd).mono ?_); rintro e w' ⟨rfl, rfl⟩))
            | (refine wpList_load_row_g (g := 3) (d' := 53) rfl rfl rfl 31 (.tmp 6) rfl ⟨gN, 0, none⟩ rfl (cmC cc A1 j c1) _ HC.out Try.underlying31 rfl (by rw [cm_info, hcl]) ?_)
            | (refine wp_load_row_ 31 (.tmp 6) rfl ⟨gN, 0, none⟩ rfl (cmC cc A1 j c1) _ HC.out Try.underlying31 rfl (by rw [cm_info, hcl]) ?_)
            | (go_at_call 21; ((with_reducible refine hgc.mono ?_); rintro e w4' ⟨rfl, hx4⟩; have hres4 := hres.ext hx4))
            | (refine wpList_load_row_ rfl 31 (.tmp 6) rfl ⟨gN, 0, none⟩ rfl (cmC cc A1 j c1) _ (fun i v hv => hx4.cell (HC.out i v hv)) Try.underlying31 rfl (by rw [cm_info, hcl]) ?_)
            | (refine wpList_store_blk rfl 31 (.tmp 2) (.tmp 59) rfl rfl g2 (cmC cc A1 j c1).toArray rfl rfl _ _ hres4 (by rw [List.size_toArray, List.size_toArray, hcl]; rfl) (by rw [List.size_toArray, cmC_len _ _ _ _ idNone_len]; kernel_rfl) (cmC_cells _ _ _ _) ?_; intro w5 hb5 hg5))
          refine bodyPost_ret (results_row_tmp (P := Try.prog) (fn := Try.f24) rfl _ _ g2 31 (cmC cc A1 j c1).toArray _ rfl hb5 Try.underlying31 rfl (by rw [List.size_toArray, hcl]; kernel_rfl)) rfl ?_
          exact cmPost_some rfl (hxe.trans hx4) hg5 hl2w hl2B hds (HNd.out.ext hx4) hf1

/-- The reference's GetCommit: the commit of bytes. -/
theorem rgetCommit_calls (bs : List UInt8) (w : World) (hl : bs.length ≤ 140737488351232) :
    Calls Try.prog 24 #[.string (bstr bs)] w fun e w' => CmPost fOk (decC bs) w e w' := by
  match bs, hl with
  | [], hl => exact rgetCommit_few [] w hl (by decide)
  | [x], hl => exact rgetCommit_few [x] w hl (by show 1 < 2; decide)
  | h :: n1 :: b, hl =>
    show Calls _ _ _ _ fun e w' => CmPost fOk (if h = 3 ∧ n1.toNat ≤ 2 then decCB n1 b else none) w e w'
    by_cases h1 : h = 3 ∧ n1.toNat ≤ 2
    · rw [if_pos h1]
      obtain ⟨rfl, h2⟩ := h1
      exact rgetCommit_main n1 b _ w (Lib.hid rfl) hl n1.toNat rfl h2
    · rw [if_neg h1]
      exact rgetCommit_head h n1 b _ w (Lib.hid rfl) hl h1
end Go.Proofs.Ythepbcomeimcnaa
