/- The walk of the reference's GetTree, layer 15. Printed by wip/mkobjrget.py. -/
import Derived.Test.YthepbcomeimcnaaObjGet
import Derived.Test.YthepbcomeimcnaaObjRGood
import Derived.Test.YthepbcomeimcnaaObjRef
namespace Go.Proofs.Ythepbcomeimcnaa
open Go.RowKit
set_option linter.unusedVariables false

abbrev fOk : Bool → Value := fun b => .bool b
theorem rget_stays {B gR g2 : Nat} {r : PR} (h1 : gR < B) (h2 : g2 < B) : Stays B (fun u => RRdr u gR r ∧ Blk u g2 25 #[.slice none 0 0, .slice none 0 0]) := by
  intro w w' row h hg hr
  exact ⟨⟨h.1.1.grown hg (fun e => by have := hr gR e.symm; omega), h.1.2⟩, h.2.grown hg (fun e => by have := hr g2 e.symm; omega)⟩
theorem rget_after {gR gN g2 : Nat} {r : PR} {u : World} (h : RRdr u gR r ∧ Blk u g2 25 #[.slice none 0 0, .slice none 0 0]) (h1 : gR < gN) (h2 : g2 ≠ gN) (i : Nat) (v : Value) : RRdr (u.setCell ⟨gN, i, none⟩ v) gR r ∧ Blk (u.setCell ⟨gN, i, none⟩ v) g2 25 #[.slice none 0 0, .slice none 0 0] :=
  ⟨⟨h.1.1.far (p := ⟨gN, i, none⟩) (Nat.ne_of_lt h1) v, h.1.2⟩, h.2.far (p := ⟨gN, i, none⟩) h2 v⟩
theorem rget_start {w wA w1 w2 : World} {g2 gR gN : Nat} {r0 : PR} (hA : Ext w wA) (hb2 : Blk wA g2 25 #[.slice none 0 0, .slice none 0 0]) (h2w : w.heap.size = g2) (h2R : g2 < gR) (hRw : gR < wA.heap.size) (hR1 : RRdr w1 gR r0) (ht1 : Turns wA w1 gR) (hgN : w1.heap.size = gN) (hw2 : w2 = w1.alloc (.cells #[.slice none 0 0, .slice none 0 0] 25)) :
    OW w w2.heap.size (fun u => RRdr u gR r0 ∧ Blk u g2 25 #[.slice none 0 0, .slice none 0 0]) gN 25 #[.slice none 0 0, .slice none 0 0] trRows0 w2 ∧ gR < gN ∧ gN < w2.heap.size := by
  have hs1 := ht1.size
  subst hw2 hgN h2w
  have hb1 : Blk w1 w.heap.size 25 #[.slice none 0 0, .slice none 0 0] := hb2.grown ht1 (by intro e; cases e; omega)
  refine ⟨⟨(Turns.ext ht1 hA (Nat.le_of_lt h2R)).alloc _, ⟨hR1.ext ((Ext.refl _).alloc _), hb1.alloc _⟩, Blk.new w1 _ _, ?_, ?_, Nat.le_refl _⟩, by omega, by simp⟩
  · intro i r hi
    match i, hi with
    | 0, hi => cases hi; exact World.ownsRow_nil _ _ _ _
    | 1, hi => cases hi; exact World.ownsRow_nil _ _ _ _
    | n + 2, hi => cases hi
  · intro i j r s _ hi _ k hk
    match i, hi with
    | 0, hi => cases hi; cases hk
    | 1, hi => cases hi; cases hk
    | n + 2, hi => cases hi

set_option maxRecDepth 50000 in
set_option maxHeartbeats 4000000 in
theorem rgetTree_few (bs : List UInt8) (w : World) (hl : bs.length ≤ 140737488351232) (hf : bs.length < 2) :
    Calls Try.prog 20 #[.string (bstr bs)] w fun e w' => TrPost fOk none w e w' := by
  have htk := fun g w' h' => rrtake_calls g ⟨bs, false⟩ 2 w' h'
  rw [take_few hf] at htk
  go_enter Try.func20, Try.ntmps20
  obtain ⟨g2, hg2⟩ : ∃ g, g = w.heap.size := ⟨_, rfl⟩
  obtain ⟨gR, hgR⟩ : ∃ g, g = w.heap.size + 1 := ⟨_, rfl⟩
  have hA : Ext w ((w.alloc (.cells #[.slice none 0 0, .slice none 0 0] 25)).alloc (.cells #[.string (bstr bs), .bool false] 73)) := ((Ext.refl _).alloc _).alloc _
  have hbA : Blk ((w.alloc (.cells #[.slice none 0 0, .slice none 0 0] 25)).alloc (.cells #[.string (bstr bs), .bool false] 73)) g2 25 #[.slice none 0 0, .slice none 0 0] := by rw [hg2]; exact (Blk.new w _ _).alloc _
  have hRA : RRdr ((w.alloc (.cells #[.slice none 0 0, .slice none 0 0] 25)).alloc (.cells #[.string (bstr bs), .bool false] 73)) gR ⟨bs, false⟩ := ⟨by rw [hgR]; exact Blk.new_at (by simp) _ _, hl⟩
  have hRw : gR < ((w.alloc (.cells #[.slice none 0 0, .slice none 0 0] 25)).alloc (.cells #[.string (bstr bs), .bool false] 73)).heap.size := by rw [hgR]; simp
  have HA := Lib.hid hA
  have HBA := Lib.hid hbA
  have HRA := Lib.hid hRA
  have HRW := Lib.hid hRw
  clear hA hbA hRA hRw
  go_upto_region 3 with (go_at_call 39; (rw [← hgR]; (with_reducible refine (htk gR _ HRA.out).mono ?_); rintro e w1 ⟨rfl, hR1, ht1⟩))
  obtain ⟨gN, hgN⟩ : ∃ g, g = w1.heap.size := ⟨_, rfl⟩
  obtain ⟨w2, hw2⟩ : ∃ w2, w2 = w1.alloc (.cells #[.slice none 0 0, .slice none 0 0] 25) := ⟨_, rfl⟩
  obtain ⟨hS, hlRN, hlNB'⟩ := rget_start HA.out HBA.out hg2.symm (by omega) HRW.out hR1 ht1 hgN.symm hw2
  go_upto_region 4 with (fail)
  rw [← hw2, ← hgN]
  obtain ⟨B, hB⟩ : ∃ B, B = w2.heap.size := ⟨_, rfl⟩
  have hl2w : w.heap.size ≤ g2 := by omega
  have hl2g : g2 < gR := by omega
  rw [← hB] at hS hlNB'
  have hlNB : gN < B := hlNB'
  try rw [← hgR]
  try rw [← hg2]
  try rw [show g2 + 1 = gR from by omega]
  clear hlNB' hB hw2 hg2 hgR hR1 ht1 HA HBA HRA HRW hgN
  have hgd := rrgood_calls gR _ w2 hS.rd.1
  obtain ⟨c0, c1⟩ := tree_cells hS.nod
  go_wp2_with (first
    | (go_at_call 40; ((with_reducible refine hgd.mono ?_); rintro e w' ⟨rfl, rfl⟩))
    | (refine wpList_store_blk rfl 25 (.tmp 2) (.tmp 27) rfl rfl g2 #[.slice none 0 0, .slice none 0 0] rfl rfl _ _ hS.rd.2 rfl (by kernel_rfl) (by simp [Value.oneCell']) ?_; intro w5 hb5 hg5))
  refine bodyPost_ret (results_row_tmp (P := Try.prog) (fn := Try.f20) rfl _ _ g2 25 #[.slice none 0 0, .slice none 0 0] _ rfl hb5 Try.underlying25 rfl (by kernel_rfl)) rfl ?_
  exact trPost_none rfl ((hS.ext).grown_ hg5 (by intro k hk; cases hk; exact hl2w)) rfl

set_option maxRecDepth 50000 in
set_option maxHeartbeats 4000000 in
theorem rgetTree_head (h n1 : UInt8) (b bs : List UInt8) (w : World) (hbs : Hid (bs = h :: n1 :: b)) (hl : bs.length ≤ 140737488351232) (h1 : ¬ (h.toNat : Int) = 1) (h2 : ¬ (h.toNat : Int) = 2) :
    Calls Try.prog 20 #[.string (bstr bs)] w fun e w' => TrPost fOk none w e w' := by
  have hne1 : (((h.toNat : Int) != 1) : Bool) = true := bne_iff_ne.2 h1
  have hne2 : (((h.toNat : Int) != 2) : Bool) = true := bne_iff_ne.2 h2
  have htk := fun g w' h' => rrtake_calls g ⟨bs, false⟩ 2 w' h'
  rw [hbs.out, take_two] at htk
  rw [← hbs.out] at htk
  have hsz : (bstr [h, n1]).size = 2 := bstr_size _
  have hget0 : ∀ h' : 0 < (bstr [h, n1]).size, (bstr [h, n1])[0]'h' = h := fun h' => bstr_get (bs := [h, n1]) (j := 0) (by show 0 < 2; decide) h'
  have hget1 : ∀ h' : 1 < (bstr [h, n1]).size, (bstr [h, n1])[1]'h' = n1 := fun h' => bstr_get (bs := [h, n1]) (j := 1) (by show 1 < 2; decide) h'
  go_enter Try.func20, Try.ntmps20
  obtain ⟨g2, hg2⟩ : ∃ g, g = w.heap.size := ⟨_, rfl⟩
  obtain ⟨gR, hgR⟩ : ∃ g, g = w.heap.size + 1 := ⟨_, rfl⟩
  have hA : Ext w ((w.alloc (.cells #[.slice none 0 0, .slice none 0 0] 25)).alloc (.cells #[.string (bstr bs), .bool false] 73)) := ((Ext.refl _).alloc _).alloc _
  have hbA : Blk ((w.alloc (.cells #[.slice none 0 0, .slice none 0 0] 25)).alloc (.cells #[.string (bstr bs), .bool false] 73)) g2 25 #[.slice none 0 0, .slice none 0 0] := by rw [hg2]; exact (Blk.new w _ _).alloc _
  have hRA : RRdr ((w.alloc (.cells #[.slice none 0 0, .slice none 0 0] 25)).alloc (.cells #[.string (bstr bs), .bool false] 73)) gR ⟨bs, false⟩ := ⟨by rw [hgR]; exact Blk.new_at (by simp) _ _, hl⟩
  have hRw : gR < ((w.alloc (.cells #[.slice none 0 0, .slice none 0 0] 25)).alloc (.cells #[.string (bstr bs), .bool false] 73)).heap.size := by rw [hgR]; simp
  have HA := Lib.hid hA
  have HBA := Lib.hid hbA
  have HRA := Lib.hid hRA
  have HRW := Lib.hid hRw
  clear hA hbA hRA hRw
  go_upto_region 3 with (go_at_call 39; (rw [← hgR]; (with_reducible refine (htk gR _ HRA.out).mono ?_); rintro e w1 ⟨rfl, hR1, ht1⟩))
  obtain ⟨gN, hgN⟩ : ∃ g, g = w1.heap.size := ⟨_, rfl⟩
  obtain ⟨w2, hw2⟩ : ∃ w2, w2 = w1.alloc (.cells #[.slice none 0 0, .slice none 0 0] 25) := ⟨_, rfl⟩
  obtain ⟨hS, hlRN, hlNB'⟩ := rget_start HA.out HBA.out hg2.symm (by omega) HRW.out hR1 ht1 hgN.symm hw2
  go_upto_region 4 with (fail)
  rw [← hw2, ← hgN]
  obtain ⟨B, hB⟩ : ∃ B, B = w2.heap.size := ⟨_, rfl⟩
  have hl2w : w.heap.size ≤ g2 := by omega
  have hl2g : g2 < gR := by omega
  rw [← hB] at hS hlNB'
  have hlNB : gN < B := hlNB'
  try rw [← hgR]
  try rw [← hg2]
  try rw [show g2 + 1 = gR from by omega]
  clear hlNB' hB hw2 hg2 hgR hR1 ht1 HA HBA HRA HRW hgN
  have hgd := rrgood_calls gR _ w2 hS.rd.1
  obtain ⟨c0, c1⟩ := tree_cells hS.nod
  go_wp2_with (first
    | (go_at_call 40; ((with_reducible refine hgd.mono ?_); rintro e w' ⟨rfl, rfl⟩))
    | (refine wpList_store_blk rfl 25 (.tmp 2) (.tmp 27) rfl rfl g2 #[.slice none 0 0, .slice none 0 0] rfl rfl _ _ hS.rd.2 rfl (by kernel_rfl) (by simp [Value.oneCell']) ?_; intro w5 hb5 hg5))
  refine bodyPost_ret (results_row_tmp (P := Try.prog) (fn := Try.f20) rfl _ _ g2 25 #[.slice none 0 0, .slice none 0 0] _ rfl hb5 Try.underlying25 rfl (by kernel_rfl)) rfl ?_
  exact trPost_none rfl ((hS.ext).grown_ hg5 (by intro k hk; cases hk; exact hl2w)) rfl

set_option maxRecDepth 50000 in
set_option maxHeartbeats 16000000 in
theorem rgetTree_leaf (n1 : UInt8) (b bs : List UInt8) (w : World) (hbs : Hid (bs = 1 :: n1 :: b)) (hl : bs.length ≤ 140737488351232) (cnt : Nat) (hcnt : n1.toNat = cnt) :
    Calls Try.prog 20 #[.string (bstr bs)] w fun e w' => TrPost fOk (decTB 1 n1 b) w e w' := by
  have hcn : cnt < 256 := by rw [← hcnt]; exact n1.toNat_lt
  have hr0 : (PR.mk b false).Ok := fun h => by cases h
  have hbl : b.length ≤ 140737488351232 := by rw [hbs.out] at hl; simp only [List.length_cons] at hl; omega
  obtain ⟨r0, hr0e⟩ : ∃ r0, r0 = PR.mk b false := ⟨_, rfl⟩
  have htk := fun g w' h' => rrtake_calls g ⟨bs, false⟩ 2 w' h'
  rw [hbs.out, take_two, ← hr0e] at htk
  rw [← hbs.out] at htk
  have hgd0 := fun g w' h' => rrgood_calls g r0 w' h'
  rw [show r0.bad = false by rw [hr0e]] at hgd0
  rw [← hr0e] at hr0
  have HB := Lib.hid hr0
  have hsz : (bstr [1, n1]).size = 2 := bstr_size _
  have hget0 : ∀ h' : 0 < (bstr [1, n1]).size, (bstr [1, n1])[0]'h' = 1 := fun h' => bstr_get (bs := [1, n1]) (j := 0) (by show 0 < 2; decide) h'
  have hget1 : ∀ h' : 1 < (bstr [1, n1]).size, (bstr [1, n1])[1]'h' = n1 := fun h' => bstr_get (bs := [1, n1]) (j := 1) (by show 1 < 2; decide) h'
  have hdec : decTB 1 n1 b = if tOk 1 (tsteps true r0 cnt) then some ⟨(tsteps true r0 cnt).prs, (tsteps true r0 cnt).kds⟩ else none := by
    unfold decTB
    rw [hcnt, ← hr0e]
    rfl
  have hsame : ∀ t, decTB 1 n1 b = some t → t.bytes = bs := fun t ht => by
    have : decT bs = some t := by rw [hbs.out]; exact ht
    exact (decT_good this).2.2
  have hbl0 : r0.b.length ≤ 140737488351232 := by rw [hr0e]; exact hbl
  have HD := Lib.hid hdec
  have HSM := Lib.hid hsame
  clear hr0e hr0 hbl hdec hsame
  generalize hdd : decTB 1 n1 b = dd at HD HSM ⊢
  clear hdd
  go_enter Try.func20, Try.ntmps20
  obtain ⟨g2, hg2⟩ : ∃ g, g = w.heap.size := ⟨_, rfl⟩
  obtain ⟨gR, hgR⟩ : ∃ g, g = w.heap.size + 1 := ⟨_, rfl⟩
  have hA : Ext w ((w.alloc (.cells #[.slice none 0 0, .slice none 0 0] 25)).alloc (.cells #[.string (bstr bs), .bool false] 73)) := ((Ext.refl _).alloc _).alloc _
  have hbA : Blk ((w.alloc (.cells #[.slice none 0 0, .slice none 0 0] 25)).alloc (.cells #[.string (bstr bs), .bool false] 73)) g2 25 #[.slice none 0 0, .slice none 0 0] := by rw [hg2]; exact (Blk.new w _ _).alloc _
  have hRA : RRdr ((w.alloc (.cells #[.slice none 0 0, .slice none 0 0] 25)).alloc (.cells #[.string (bstr bs), .bool false] 73)) gR ⟨bs, false⟩ := ⟨by rw [hgR]; exact Blk.new_at (by simp) _ _, hl⟩
  have hRw : gR < ((w.alloc (.cells #[.slice none 0 0, .slice none 0 0] 25)).alloc (.cells #[.string (bstr bs), .bool false] 73)).heap.size := by rw [hgR]; simp
  have HA := Lib.hid hA
  have HBA := Lib.hid hbA
  have HRA := Lib.hid hRA
  have HRW := Lib.hid hRw
  clear hA hbA hRA hRw
  go_upto_region 3 with (go_at_call 39; (rw [← hgR]; (with_reducible refine (htk gR _ HRA.out).mono ?_); rintro e w1 ⟨rfl, hR1, ht1⟩))
  obtain ⟨gN, hgN⟩ : ∃ g, g = w1.heap.size := ⟨_, rfl⟩
  obtain ⟨w2, hw2⟩ : ∃ w2, w2 = w1.alloc (.cells #[.slice none 0 0, .slice none 0 0] 25) := ⟨_, rfl⟩
  obtain ⟨hS, hlRN, hlNB'⟩ := rget_start HA.out HBA.out hg2.symm (by omega) HRW.out hR1 ht1 hgN.symm hw2
  go_upto_region 4 with (fail)
  rw [← hw2, ← hgN]
  obtain ⟨B, hB⟩ : ∃ B, B = w2.heap.size := ⟨_, rfl⟩
  have hl2w : w.heap.size ≤ g2 := by omega
  have hl2g : g2 < gR := by omega
  rw [← hB] at hS hlNB'
  have hlNB : gN < B := hlNB'
  try rw [← hgR]
  try rw [← hg2]
  try rw [show g2 + 1 = gR from by omega]
  clear hlNB' hB hw2 hg2 hgR hR1 ht1 HA HBA HRA HRW hgN
  have hl0B : w.heap.size ≤ B := by have := hS.ext.size; have := hS.hB; omega
  have hl0N : w.heap.size ≤ gN := by omega
  have hlRB : gR < B := by omega
  have hl2B : g2 < B := by omega
  have hl0R : w.heap.size ≤ gR := by omega
  go_upto_region 7 with (go_at_call 40; (with_reducible refine (hgd0 gR _ hS.rd.1).mono ?_); rintro e w' ⟨rfl, rfl⟩)
  clear hgd0 htk
  go_loopg [7] cnt (fun gk i wr => ∃ (j : Nat) (D : TSt) (A1 : Option Addr) (c1 : Nat), i = .int .i64 j ∧ j + gk = cnt ∧ Hid (D = tsteps true r0 j) ∧ OW w B (fun u => RRdr u gR D.r ∧ Blk u g2 25 #[.slice none 0 0, .slice none 0 0]) gN 25 #[.slice A1 j c1, .slice none 0 0] [⟨43, 2, j, (D.prs.map prC).flatten, .slice A1 j c1⟩, ⟨59, 34, 0, [], .slice none 0 0⟩] wr)
  case atStart => exact ⟨0, tsteps true r0 0, none, 0, rfl, by omega, Lib.hid rfl, hS⟩
  case round =>
    obtain ⟨j, D, A1, c1, rfl, hjk, hD, hX0⟩ := hrel
    have hDok : D.r.Ok := by rw [hD.out]; exact tsteps_ok HB.out j
    by_cases hlt : j < cnt
    · obtain ⟨gk', rfl⟩ : ∃ k, gk = k + 1 := ⟨gk - 1, by omega⟩
      have hgd := rrgood_calls gR _ wr hX0.rd.1
      have hltI : (j : Int) < (cnt : Int) := by omega
      cases hbad : D.r.bad with
      | true =>
        rw [hbad] at hgd
        have hall : (tsteps true r0 cnt).r = PR.fail := tsteps_bad HB.out (j := j) (by rw [← hD.out]; exact hbad) cnt (by omega)
        have hdn : dd = none := by
          rw [HD.out, tOk_end (by rw [hall]; rfl)]
          rfl
        have hend := rrend_calls gR _ wr hX0.rd.1
        rw [show D.r.end_ = false by unfold PR.end_; rw [hbad]; rfl] at hend
        have hres := hX0.rd.2
        have hxe := hX0.ext
        clear hall hX0 hD hS hDok
        go_wp2_with (first
          | (go_at_call 40; ((with_reducible refine hgd.mono ?_); rintro e w' ⟨rfl, rfl⟩))
          | (go_at_call 43; ((with_reducible refine hend.mono ?_); rintro e w' ⟨rfl, rfl⟩))
          | (refine wpList_store_blk rfl 25 (.tmp 2) (.tmp 76) rfl rfl g2 #[.slice none 0 0, .slice none 0 0] rfl rfl _ _ hres rfl (by kernel_rfl) (by simp [Value.oneCell']) ?_; intro w5 hb5 hg5))
        refine bodyPost_ret (results_row_tmp (P := Try.prog) (fn := Try.f20) rfl _ _ g2 25 #[.slice none 0 0, .slice none 0 0] _ rfl hb5 Try.underlying25 rfl (by kernel_rfl)) rfl ?_
        exact trPost_none rfl ((hxe).grown_ hg5 (by intro k hk; cases hk; exact hl2w)) hdn
      | false =>
        rw [hbad] at hgd
        obtain ⟨x1, q1, htx⟩ : ∃ x q, D.r.text 16 = (x, q) := ⟨_, _, rfl⟩
        have htc := fun w' h' => rrtext_calls gR D.r 16 w' h' (by decide)
        rw [htx] at htc
        have hq1 : q1.Ok := by have := hDok.text 16; rw [htx] at this; exact this
        have Hq1 := Lib.hid hq1
        have Htx := Lib.hid htx
        clear hq1 htx
        go_upto_region 11 with (first
          | (go_at_call 40; ((with_reducible refine hgd.mono ?_); rintro e w' ⟨rfl, rfl⟩))
          | (go_at_call 41; ((with_reducible refine (htc _ hX0.rd.1).mono ?_); rintro e wt ⟨rfl, hrt, htt⟩; have hX1 := hX0.turn (RP' := fun u => RRdr u gR q1 ∧ Blk u g2 25 #[.slice none 0 0, .slice none 0 0]) htt ⟨hrt, hX0.rd.2.grown htt (by intro e; cases e; omega)⟩ (fun k hk => by cases hk; exact ⟨by omega, by omega, by omega⟩))))
        refine wp_region_opsC (CInv [44, 45, 46, 47, 48, 49, 50, 51, 52] _ [(0, 44, .pointer (some ⟨gN, 0, none⟩)), (1, 45, .slice A1 j c1), (2, 46, .string (bstr x1)), (3, 47, .pointer (some ⟨gR, 0, none⟩)), (5, 49, .agg (prC (bstr x1, bstr (q1.text 16).1)).toArray), (8, 52, .pointer (some ⟨gN, 0, none⟩))] [(4, some 48), (6, some 50), (7, some 51), (9, none)] (PushW (OW w B (fun u => RRdr u gR q1 ∧ Blk u g2 25 #[.slice none 0 0, .slice none 0 0]) gN 25 #[.slice A1 j c1, .slice none 0 0] [⟨43, 2, j, (D.prs.map prC).flatten, .slice A1 j c1⟩, ⟨59, 34, 0, [], .slice none 0 0⟩]) (OW w B (fun u => RRdr u gR (q1.text 16).2 ∧ Blk u g2 25 #[.slice none 0 0, .slice none 0 0]) gN 25 #[.slice A1 j c1, .slice none 0 0] [⟨43, 2, j, (D.prs.map prC).flatten, .slice A1 j c1⟩, ⟨59, 34, 0, [], .slice none 0 0⟩]) ((Value.string (bstr (q1.text 16).1))) (prC (bstr x1, bstr (q1.text 16).1)) (fun v => OW w B (fun u => RRdr u gR (q1.text 16).2 ∧ Blk u g2 25 #[.slice none 0 0, .slice none 0 0]) gN 25 #[.slice A1 j c1, .slice none 0 0] [⟨43, 2, j + 1, (D.prs.map prC).flatten ++ (prC (bstr x1, bstr (q1.text 16).1)), v⟩, ⟨59, 34, 0, [], .slice none 0 0⟩]) (fun v => OW w B (fun u => RRdr u gR (q1.text 16).2 ∧ Blk u g2 25 #[.slice none 0 0, .slice none 0 0]) gN 25 #[v, .slice none 0 0] [⟨43, 2, j + 1, (D.prs.map prC).flatten ++ (prC (bstr x1, bstr (q1.text 16).1)), v⟩, ⟨59, 34, 0, [], .slice none 0 0⟩]))) (by kernel_rfl) (by kernel_rfl) (CInv.start (OW.more hX1 (rget_stays hlRB hl2B) ((Ext.refl _).drew))) ?_ ?_
        · refine ⟨?o0, ?o1, ?o2, ?o3, ?o4, ?o5, ?o6, ?o7, ?o8, ?o9, trivial⟩
          case o0 =>
            intro f a u h hfi hp hq hcl
            have q6 : a.tmps[6]?.getD undef = .pointer (some ⟨gN, 0, none⟩) := h.agree.att (by decide)
            exact h.yield rfl rfl 44 rfl (by change 44 < 78; decide) rfl _ rfl (by go_simp)
          case o1 =>
            intro f a u h hfi hp hq hcl
            have q44 := h.att 0 rfl (pre_of hp 0 rfl)
            obtain ⟨xs, hx, hl⟩ := h.before 2 rfl (hq 7 _ rfl rfl)
            have hN := PushW.ahead (N := fun u => Blk u gN 25 #[.slice A1 j c1, .slice none 0 0]) hx (by omega) (fun _ h => h.nod) (fun _ h => h.nod) (fun _ _ h => h.nod)
            have c1 : u.cell? ⟨gN, 0, none⟩ = some (.slice A1 j c1) := hN.cell 0
            clear hN hx
            exact h.yield rfl rfl 45 rfl (by change 45 < 78; decide) rfl _ rfl (by go_simp)
          case o2 =>
            intro f a u h hfi hp hq hcl
            have q8 : a.tmps[8]?.getD undef = .string (bstr x1) := h.agree.att (by decide)
            exact h.yield rfl rfl 46 rfl (by change 46 < 78; decide) rfl _ rfl (by go_simp)
          case o3 =>
            intro f a u h hfi hp hq hcl
            have q4 : a.tmps[4]?.getD undef = .pointer (some ⟨gR, 0, none⟩) := h.agree.att (by decide)
            exact h.yield rfl rfl 47 rfl (by change 47 < 78; decide) rfl _ rfl (by go_simp)
          case o4 =>
            intro f a u h hfi hp hq hcl
            refine h.link hfi rfl rfl 0 _ rfl rfl (fun t ht => by cases ht; change 48 < 78; decide) rfl (fun k c d' hk hc => by omega) ?_
            intro xs hl hX hv
            obtain rfl : xs = [] := List.eq_nil_of_length_eq_zero hl
            have hX : OW w B (fun u => RRdr u gR q1 ∧ Blk u g2 25 #[.slice none 0 0, .slice none 0 0]) gN 25 #[.slice A1 j c1, .slice none 0 0] [⟨43, 2, j, (D.prs.map prC).flatten, .slice A1 j c1⟩, ⟨59, 34, 0, [], .slice none 0 0⟩] u := hX
            refine wp_call 41 #[.tmp 47, .const (.int .i64 16)] #[71, 3] _ rfl (by kernel_rfl) (by rw [arr2, h.at_ 3 rfl (pre_of hp 3 rfl), show a.eval (.const (.int .i64 16)) = .int .i64 16 from rfl]) (Calls.mono (rrtext_calls gR q1 16 _ hX.rd.1 (by omega)) ?_)
            rintro e u' ⟨rfl, hr1, ht1⟩
            exact ⟨_, rfl, _, rfl, rfl, hX.turn ht1 ⟨hr1, hX.rd.2.grown ht1 (by intro e; cases e; omega)⟩ (fun k hk => by cases hk; exact ⟨by omega, by omega, by omega⟩)⟩
          case o5 =>
            intro f a u h hfi hp hq hcl
            have q46 := h.att 2 rfl (pre_of hp 2 rfl)
            obtain ⟨xs, hx, hl, _, e48⟩ := h.got 0 rfl (pre_of hp 4 rfl)
            exact h.yield rfl rfl 49 rfl (by change 49 < 78; decide) rfl _ rfl (run_of_sem (exec_build rfl (by rw [arr2]; simp only [h.at_ 2 rfl (pre_of hp 2 rfl), show a.eval (.tmp 48) = _ from e48.trans (PushW.first hx hl)])) (build_pair _ _ _))
          case o6 =>
            intro f a u h hfi hp hq hcl
            refine h.link hfi rfl rfl 1 _ rfl rfl (fun t ht => by cases ht; change 50 < 78; decide) rfl (fun k c d' hk hc => by (have hk0 : k = 0 := (by omega)); subst hk0; cases hc; exact (pre_cl hcl rfl (pre_of hp 5 rfl) 4 rfl)) ?_
            intro xs hl hX hv
            obtain ⟨s, rfl⟩ := len1 hl
            obtain ⟨hs, hX⟩ : s = _ ∧ OW w B (fun u => RRdr u gR (q1.text 16).2 ∧ Blk u g2 25 #[.slice none 0 0, .slice none 0 0]) gN 25 #[.slice A1 j c1, .slice none 0 0] [⟨43, 2, j, (D.prs.map prC).flatten, .slice A1 j c1⟩, ⟨59, 34, 0, [], .slice none 0 0⟩] u := hX
            have e49 := h.at_ 4 rfl (pre_of hp 5 rfl)
            refine wp_val (exec_buildSlice rfl (by rw [arr1]; simp only [show a.eval (.tmp 49) = _ from e49]; rfl)) (lit1_pair _ _ _) ?_
            exact ⟨_, rfl, hs, ⟨_, rfl, Cells.lit rfl (prC (bstr x1, bstr (q1.text 16).1)) _ _⟩, hX.more (rget_stays hlRB hl2B) ((Ext.refl _).alloc _)⟩
          case o7 =>
            intro f a u h hfi hp hq hcl
            refine h.link hfi rfl rfl 2 _ rfl rfl (fun t ht => by cases ht; change 51 < 78; decide) rfl (fun k c d' hk hc => by (have hk0 : k = 1 := (by omega)); subst hk0; cases hc; exact (pre_of hp 6 rfl)) ?_
            intro xs hl hX hv
            obtain ⟨s, l, rfl⟩ := len2 hl
            obtain ⟨hs, ⟨g, rfl, hc⟩, hX⟩ : s = _ ∧ (∃ g, l = _ ∧ _) ∧ OW w B (fun u => RRdr u gR (q1.text 16).2 ∧ Blk u g2 25 #[.slice none 0 0, .slice none 0 0]) gN 25 #[.slice A1 j c1, .slice none 0 0] [⟨43, 2, j, (D.prs.map prC).flatten, .slice A1 j c1⟩, ⟨59, 34, 0, [], .slice none 0 0⟩] u := hX
            have el := hv 1 _ _ rfl (by decide)
            refine wp_append u (.tmp 45) (.tmp 50) 22 rfl B 43 (.agg #[.string ByteArray.empty, .string ByteArray.empty]) 2 32 Try.underlying22 (by kernel_rfl) rfl (by decide) _ j _ (h.at_ 1 rfl (pre_of hp 1 rfl)) (hX.own 0 _ rfl) (some ⟨g, 0, none⟩) 1 1 (prC (bstr x1, bstr (q1.text 16).1)) el rfl hc (prC_one _) (by simp only [maxLen]; omega) (by omega) hX.hB ?_
            intro v' u' ho hg hf
            exact ⟨_, rfl, hs, hX.app (rget_stays hlRB hl2B) hlNB hl0B (i := 0) rfl ho hg hf⟩
          case o8 =>
            intro f a u h hfi hp hq hcl
            have q6 : a.tmps[6]?.getD undef = .pointer (some ⟨gN, 0, none⟩) := h.agree.att (by decide)
            exact h.yield rfl rfl 52 rfl (by change 52 < 78; decide) rfl _ rfl (by go_simp)
          case o9 =>
            intro f a u h hfi hp hq hcl
            refine h.link hfi rfl rfl 3 _ rfl rfl (fun t ht => by cases ht) rfl (fun k c d' hk hc => by (have hk0 : k = 2 := (by omega)); subst hk0; cases hc; exact (pre_of hp 7 rfl)) ?_
            intro xs hl hX hv
            obtain ⟨s, l, v, rfl⟩ := len3 hl
            obtain ⟨hs, hX⟩ : s = _ ∧ OW w B (fun u => RRdr u gR (q1.text 16).2 ∧ Blk u g2 25 #[.slice none 0 0, .slice none 0 0]) gN 25 #[.slice A1 j c1, .slice none 0 0] [⟨43, 2, j + 1, (D.prs.map prC).flatten ++ (prC (bstr x1, bstr (q1.text 16).1)), v⟩, ⟨59, 34, 0, [], .slice none 0 0⟩] u := hX
            have ev := hv 2 _ _ rfl (by decide)
            obtain ⟨Av, cv, hvv, _, _, _⟩ := own_form (hX.own 0 _ rfl) (by show 0 < 2; decide)
            have hvv : v = .slice Av (j + 1) cv := hvv
            subst hvv
            have c1 : u.cell? ⟨gN, 0, none⟩ = some (.slice A1 j c1) := hX.nod.cell 0
            have f1 := hX.nod.frozen 0
            refine wp_store_cell 22 (.tmp 52) (.tmp 51) rfl rfl (h.at_ 5 rfl (pre_of hp 8 rfl)) ev (st_pairs _ _ _ _ _ _ c1 f1) ?_
            exact ⟨.tuple #[], rfl, hs, hX.sto (grown_set u gN 0 _) (blk_set hX.nod 0 _) (rget_after hX.rd hlRN (by omega) _ _) hlNB hl0N⟩
        · intro f a u h hall hfar
          obtain ⟨xs, hxl, hX, hv⟩ := h.done (by intro c hc; simp only [List.mem_cons, List.not_mem_nil, or_false] at hc; rcases hc with rfl | rfl | rfl | rfl; all_goals exact hall _ (by decide))
          obtain ⟨s, l, v, t, rfl⟩ := len4 hxl
          have hX : OW w B (fun u => RRdr u gR (q1.text 16).2 ∧ Blk u g2 25 #[.slice none 0 0, .slice none 0 0]) gN 25 #[v, .slice none 0 0] [⟨43, 2, j + 1, (D.prs.map prC).flatten ++ (prC (bstr x1, bstr (q1.text 16).1)), v⟩, ⟨59, 34, 0, [], .slice none 0 0⟩] u := hX.2
          have hag := h.agree.out
          simp only [List.foldl_cons, List.foldl_nil, Act.put, List.setIfInBounds_toArray, List.set_cons_zero, List.set_cons_succ] at hag
          generalize a.eval (.tmp 44) = y44 at hag
          generalize a.eval (.tmp 45) = y45 at hag
          generalize a.eval (.tmp 46) = y46 at hag
          generalize a.eval (.tmp 47) = y47 at hag
          generalize a.eval (.tmp 48) = y48 at hag
          generalize a.eval (.tmp 49) = y49 at hag
          generalize a.eval (.tmp 50) = y50 at hag
          generalize a.eval (.tmp 51) = y51 at hag
          generalize a.eval (.tmp 52) = y52 at hag
          clear h hall hfar hxl hv
          subst hag
          obtain ⟨Av1, cv1, hvv, lv, mv, hcv⟩ := own_form (hX.own 0 _ rfl) (by show 0 < 2; decide)
          have hvv : v = .slice Av1 (j + 1) cv1 := hvv
          subst hvv
          clear lv mv hcv
          go_wp2
          go_roundg gk'
          case measure => omega
          case rel =>
            rw [prs_snoc] at hX
            exact ⟨j + 1, ⟨D.prs ++ [(bstr x1, bstr (q1.text 16).1)], D.kds, (q1.text 16).2⟩, Av1, cv1, by go_num, by omega, Lib.hid (by show _ = tstep true (tsteps true r0 j); rw [← hD.out]; first | (simp only [tstep, Htx.out, if_true, Bool.false_eq_true, if_false]; done) | (simp only [tstep, Htx.out]; try rfl)), hX⟩
    · obtain rfl : j = cnt := by omega
      clear hlt hS
      have hge : ¬ (j : Int) < (j : Int) := by omega
      have hend := rrend_calls gR _ wr hX0.rd.1
      obtain ⟨hlp, hlk⟩ := tsteps_len true r0 j
      obtain ⟨hsp, hsk, _⟩ := tsteps_sizes true r0 140737488351232 hbl0 j
      have HDD := Lib.hid HD.out
      rw [← hD.out] at hlp hlk hsp hsk HDD
      simp only [if_true, if_false, Bool.false_eq_true] at hlp hlk
      obtain ⟨t, ht⟩ : ∃ t : Tr, t = ⟨D.prs, D.kds⟩ := ⟨_, rfl⟩
      have hemp : D.kds = [] := List.eq_nil_of_length_eq_zero hlk
      have hNd : TrAt wr t A1 none j 0 c1 0 := by
        subst ht
        refine get_fin _ (nc := #[.slice A1 j c1, .slice none 0 0]) (by rw [hemp]; exact hX0) hlp hlk (by omega) (by omega) hsp hsk
      have hf1 := ow_addr hX0 0 rfl rfl
      have hok : tOk 1 D = (D.r.end_ && (t.good && (!(1 == 2 && D.kds.length == 0) && (1 == 1 || 1 == 2)))) := by rw [ht]; rfl
      have hdd : dd = if tOk 1 D then some t else none := by rw [HDD.out, ht]
      have HOK := Lib.hid hok
      have HDd := Lib.hid hdd
      have HNd := Lib.hid hNd
      have hN := hX0.nod
      have hres := hX0.rd.2
      have hxe := hX0.ext
      have HN := Lib.hid hN
      have HLK := Lib.hid hlk
      clear hlp hlk hsp hsk hNd ht hX0 hN hD hok hdd hemp hDok hjk HDD
      obtain ⟨c0, c1'⟩ := tree_cells HN.out
      cases hbad : D.r.end_ with
      | false =>
        rw [hbad] at hend
        have hdn : dd = none := by rw [HDd.out, HOK.out, hbad]; rfl
        go_wp2_with (first
          | (go_at_call 43; ((with_reducible refine hend.mono ?_); rintro e w' ⟨rfl, rfl⟩))
          | (refine wpList_store_blk rfl 25 (.tmp 2) (.tmp 76) rfl rfl g2 #[.slice none 0 0, .slice none 0 0] rfl rfl _ _ hres rfl (by kernel_rfl) (by simp [Value.oneCell']) ?_; intro w5 hb5 hg5))
        refine bodyPost_ret (results_row_tmp (P := Try.prog) (fn := Try.f20) rfl _ _ g2 25 #[.slice none 0 0, .slice none 0 0] _ rfl hb5 Try.underlying25 rfl (by kernel_rfl)) rfl ?_
        exact trPost_none rfl ((hxe).grown_ hg5 (by intro k hk; cases hk; exact hl2w)) hdn
      | true =>
        rw [hbad] at hend
        have hgc := rgoodTree_calls t A1 none j 0 c1 0 wr HNd.out
        cases hg : t.good with
        | false =>
          rw [hg] at hgc
          have hdn : dd = none := by rw [HDd.out, HOK.out, hbad, hg]; rfl
          go_wp2_with (first
            | (go_at_call 43; ((with_reducible refine hend.mono ?_); rintro e w' ⟨rfl, rfl⟩))
            | (go_at_call 17; ((with_reducible refine hgc.mono ?_); rintro e w4 ⟨rfl, hx4⟩; have hres4 := hres.ext hx4))
            | (refine wpList_store_blk rfl 25 (.tmp 2) (.tmp 76) rfl rfl g2 #[.slice none 0 0, .slice none 0 0] rfl rfl _ _ hres4 rfl (by kernel_rfl) (by simp [Value.oneCell']) ?_; intro w5 hb5 hg5))
          refine bodyPost_ret (results_row_tmp (P := Try.prog) (fn := Try.f20) rfl _ _ g2 25 #[.slice none 0 0, .slice none 0 0] _ rfl hb5 Try.underlying25 rfl (by kernel_rfl)) rfl ?_
          exact trPost_none rfl ((hxe.trans hx4).grown_ hg5 (by intro k hk; cases hk; exact hl2w)) hdn
        | true =>
          rw [hg] at hgc
          have hrt := fun w' h' => rtree_calls t A1 none j 0 c1 0 w' h' hg
          have hds : dd = some t := by rw [HDd.out, HOK.out, hbad, hg]; rfl
          have hbytes := HSM.out t hds
          rw [hbytes] at hrt
          go_wp2_with (first
            | (go_at_call 43; ((with_reducible refine hend.mono ?_); rintro e w' ⟨rfl, rfl⟩))
            | (go_at_call 17; ((with_reducible refine hgc.mono ?_); rintro e w4 ⟨rfl, hx4⟩; clear c0 c1'; obtain ⟨c0, c1'⟩ := tree_cells (HN.out.ext hx4)))
            | (go_at_call 15; ((with_reducible refine (hrt _ (HNd.out.ext hx4)).mono ?_); rintro e w4' ⟨rfl, hx4'⟩; have hx44 := hx4.trans hx4'; have hres4 := hres.ext hx44; clear c0 c1'; obtain ⟨c0, c1'⟩ := tree_cells (HN.out.ext hx44)))
            | (refine wpList_store_blk rfl 25 (.tmp 2) (.tmp 77) rfl rfl g2 #[.slice A1 j c1, .slice none 0 0] rfl rfl _ _ hres4 rfl (by kernel_rfl) (by simp [Value.oneCell']) ?_; intro w5 hb5 hg5))
          refine bodyPost_ret (results_row_tmp (P := Try.prog) (fn := Try.f20) rfl _ _ g2 25 #[.slice A1 j c1, .slice none 0 0] _ rfl hb5 Try.underlying25 rfl (by kernel_rfl)) rfl ?_
          exact trPost_some rfl (hxe.trans hx44) hg5 hl2w hl2B hds (HNd.out.ext hx44) hf1 (fun x h => by cases h)

set_option maxRecDepth 50000 in
set_option maxHeartbeats 16000000 in
theorem rgetTree_kids (n1 : UInt8) (b bs : List UInt8) (w : World) (hbs : Hid (bs = 2 :: n1 :: b)) (hl : bs.length ≤ 140737488351232) (cnt : Nat) (hcnt : n1.toNat = cnt) :
    Calls Try.prog 20 #[.string (bstr bs)] w fun e w' => TrPost fOk (decTB 2 n1 b) w e w' := by
  have hcn : cnt < 256 := by rw [← hcnt]; exact n1.toNat_lt
  have hr0 : (PR.mk b false).Ok := fun h => by cases h
  have hbl : b.length ≤ 140737488351232 := by rw [hbs.out] at hl; simp only [List.length_cons] at hl; omega
  obtain ⟨r0, hr0e⟩ : ∃ r0, r0 = PR.mk b false := ⟨_, rfl⟩
  have htk := fun g w' h' => rrtake_calls g ⟨bs, false⟩ 2 w' h'
  rw [hbs.out, take_two, ← hr0e] at htk
  rw [← hbs.out] at htk
  have hgd0 := fun g w' h' => rrgood_calls g r0 w' h'
  rw [show r0.bad = false by rw [hr0e]] at hgd0
  rw [← hr0e] at hr0
  have HB := Lib.hid hr0
  have hsz : (bstr [2, n1]).size = 2 := bstr_size _
  have hget0 : ∀ h' : 0 < (bstr [2, n1]).size, (bstr [2, n1])[0]'h' = 2 := fun h' => bstr_get (bs := [2, n1]) (j := 0) (by show 0 < 2; decide) h'
  have hget1 : ∀ h' : 1 < (bstr [2, n1]).size, (bstr [2, n1])[1]'h' = n1 := fun h' => bstr_get (bs := [2, n1]) (j := 1) (by show 1 < 2; decide) h'
  have hdec : decTB 2 n1 b = if tOk 2 (tsteps false r0 cnt) then some ⟨(tsteps false r0 cnt).prs, (tsteps false r0 cnt).kds⟩ else none := by
    unfold decTB
    rw [hcnt, ← hr0e]
    rfl
  have hsame : ∀ t, decTB 2 n1 b = some t → t.bytes = bs := fun t ht => by
    have : decT bs = some t := by rw [hbs.out]; exact ht
    exact (decT_good this).2.2
  have hbl0 : r0.b.length ≤ 140737488351232 := by rw [hr0e]; exact hbl
  have HD := Lib.hid hdec
  have HSM := Lib.hid hsame
  clear hr0e hr0 hbl hdec hsame
  generalize hdd : decTB 2 n1 b = dd at HD HSM ⊢
  clear hdd
  go_enter Try.func20, Try.ntmps20
  obtain ⟨g2, hg2⟩ : ∃ g, g = w.heap.size := ⟨_, rfl⟩
  obtain ⟨gR, hgR⟩ : ∃ g, g = w.heap.size + 1 := ⟨_, rfl⟩
  have hA : Ext w ((w.alloc (.cells #[.slice none 0 0, .slice none 0 0] 25)).alloc (.cells #[.string (bstr bs), .bool false] 73)) := ((Ext.refl _).alloc _).alloc _
  have hbA : Blk ((w.alloc (.cells #[.slice none 0 0, .slice none 0 0] 25)).alloc (.cells #[.string (bstr bs), .bool false] 73)) g2 25 #[.slice none 0 0, .slice none 0 0] := by rw [hg2]; exact (Blk.new w _ _).alloc _
  have hRA : RRdr ((w.alloc (.cells #[.slice none 0 0, .slice none 0 0] 25)).alloc (.cells #[.string (bstr bs), .bool false] 73)) gR ⟨bs, false⟩ := ⟨by rw [hgR]; exact Blk.new_at (by simp) _ _, hl⟩
  have hRw : gR < ((w.alloc (.cells #[.slice none 0 0, .slice none 0 0] 25)).alloc (.cells #[.string (bstr bs), .bool false] 73)).heap.size := by rw [hgR]; simp
  have HA := Lib.hid hA
  have HBA := Lib.hid hbA
  have HRA := Lib.hid hRA
  have HRW := Lib.hid hRw
  clear hA hbA hRA hRw
  go_upto_region 3 with (go_at_call 39; (rw [← hgR]; (with_reducible refine (htk gR _ HRA.out).mono ?_); rintro e w1 ⟨rfl, hR1, ht1⟩))
  obtain ⟨gN, hgN⟩ : ∃ g, g = w1.heap.size := ⟨_, rfl⟩
  obtain ⟨w2, hw2⟩ : ∃ w2, w2 = w1.alloc (.cells #[.slice none 0 0, .slice none 0 0] 25) := ⟨_, rfl⟩
  obtain ⟨hS, hlRN, hlNB'⟩ := rget_start HA.out HBA.out hg2.symm (by omega) HRW.out hR1 ht1 hgN.symm hw2
  go_upto_region 4 with (fail)
  rw [← hw2, ← hgN]
  obtain ⟨B, hB⟩ : ∃ B, B = w2.heap.size := ⟨_, rfl⟩
  have hl2w : w.heap.size ≤ g2 := by omega
  have hl2g : g2 < gR := by omega
  rw [← hB] at hS hlNB'
  have hlNB : gN < B := hlNB'
  try rw [← hgR]
  try rw [← hg2]
  try rw [show g2 + 1 = gR from by omega]
  clear hlNB' hB hw2 hg2 hgR hR1 ht1 HA HBA HRA HRW hgN
  have hl0B : w.heap.size ≤ B := by have := hS.ext.size; have := hS.hB; omega
  have hl0N : w.heap.size ≤ gN := by omega
  have hlRB : gR < B := by omega
  have hl2B : g2 < B := by omega
  have hl0R : w.heap.size ≤ gR := by omega
  go_upto_region 7 with (go_at_call 40; (with_reducible refine (hgd0 gR _ hS.rd.1).mono ?_); rintro e w' ⟨rfl, rfl⟩)
  clear hgd0 htk
  go_loopg [7] cnt (fun gk i wr => ∃ (j : Nat) (D : TSt) (A1 : Option Addr) (c1 : Nat), i = .int .i64 j ∧ j + gk = cnt ∧ Hid (D = tsteps false r0 j) ∧ OW w B (fun u => RRdr u gR D.r ∧ Blk u g2 25 #[.slice none 0 0, .slice none 0 0]) gN 25 #[.slice none 0 0, .slice A1 j c1] [⟨43, 2, 0, [], .slice none 0 0⟩, ⟨59, 34, j, (D.kds.map kdC).flatten, .slice A1 j c1⟩] wr)
  case atStart => exact ⟨0, tsteps false r0 0, none, 0, rfl, by omega, Lib.hid rfl, hS⟩
  case round =>
    obtain ⟨j, D, A1, c1, rfl, hjk, hD, hX0⟩ := hrel
    have hDok : D.r.Ok := by rw [hD.out]; exact tsteps_ok HB.out j
    by_cases hlt : j < cnt
    · obtain ⟨gk', rfl⟩ : ∃ k, gk = k + 1 := ⟨gk - 1, by omega⟩
      have hgd := rrgood_calls gR _ wr hX0.rd.1
      have hltI : (j : Int) < (cnt : Int) := by omega
      cases hbad : D.r.bad with
      | true =>
        rw [hbad] at hgd
        have hall : (tsteps false r0 cnt).r = PR.fail := tsteps_bad HB.out (j := j) (by rw [← hD.out]; exact hbad) cnt (by omega)
        have hdn : dd = none := by
          rw [HD.out, tOk_end (by rw [hall]; rfl)]
          rfl
        have hend := rrend_calls gR _ wr hX0.rd.1
        rw [show D.r.end_ = false by unfold PR.end_; rw [hbad]; rfl] at hend
        have hres := hX0.rd.2
        have hxe := hX0.ext
        clear hall hX0 hD hS hDok
        go_wp2_with (first
          | (go_at_call 40; ((with_reducible refine hgd.mono ?_); rintro e w' ⟨rfl, rfl⟩))
          | (go_at_call 43; ((with_reducible refine hend.mono ?_); rintro e w' ⟨rfl, rfl⟩))
          | (refine wpList_store_blk rfl 25 (.tmp 2) (.tmp 76) rfl rfl g2 #[.slice none 0 0, .slice none 0 0] rfl rfl _ _ hres rfl (by kernel_rfl) (by simp [Value.oneCell']) ?_; intro w5 hb5 hg5))
        refine bodyPost_ret (results_row_tmp (P := Try.prog) (fn := Try.f20) rfl _ _ g2 25 #[.slice none 0 0, .slice none 0 0] _ rfl hb5 Try.underlying25 rfl (by kernel_rfl)) rfl ?_
        exact trPost_none rfl ((hxe).grown_ hg5 (by intro k hk; cases hk; exact hl2w)) hdn
      | false =>
        rw [hbad] at hgd
        obtain ⟨x1, q1, htx⟩ : ∃ x q, D.r.text 16 = (x, q) := ⟨_, _, rfl⟩
        have htc := fun w' h' => rrtext_calls gR D.r 16 w' h' (by decide)
        rw [htx] at htc
        have hq1 : q1.Ok := by have := hDok.text 16; rw [htx] at this; exact this
        have Hq1 := Lib.hid hq1
        have Htx := Lib.hid htx
        clear hq1 htx
        go_upto_region 12 with (first
          | (go_at_call 40; ((with_reducible refine hgd.mono ?_); rintro e w' ⟨rfl, rfl⟩))
          | (go_at_call 41; ((with_reducible refine (htc _ hX0.rd.1).mono ?_); rintro e wt ⟨rfl, hrt, htt⟩; have hX1 := hX0.turn (RP' := fun u => RRdr u gR q1 ∧ Blk u g2 25 #[.slice none 0 0, .slice none 0 0]) htt ⟨hrt, hX0.rd.2.grown htt (by intro e; cases e; omega)⟩ (fun k hk => by cases hk; exact ⟨by omega, by omega, by omega⟩))))
        refine wp_region_opsC (CInv [53, 54, 55, 56, 57, 58, 59, 60, 61] _ [(0, 53, .pointer (some ⟨gN, 1, none⟩)), (1, 54, .slice A1 j c1), (2, 55, .string (bstr x1)), (3, 56, .pointer (some ⟨gR, 0, none⟩)), (5, 58, .agg (kdC (bstr x1, (pid q1).1)).toArray), (8, 61, .pointer (some ⟨gN, 1, none⟩))] [(4, some 57), (6, some 59), (7, some 60), (9, none)] (PushW (OW w B (fun u => RRdr u gR q1 ∧ Blk u g2 25 #[.slice none 0 0, .slice none 0 0]) gN 25 #[.slice none 0 0, .slice A1 j c1] [⟨43, 2, 0, [], .slice none 0 0⟩, ⟨59, 34, j, (D.kds.map kdC).flatten, .slice A1 j c1⟩]) (OW w B (fun u => RRdr u gR (pid q1).2 ∧ Blk u g2 25 #[.slice none 0 0, .slice none 0 0]) gN 25 #[.slice none 0 0, .slice A1 j c1] [⟨43, 2, 0, [], .slice none 0 0⟩, ⟨59, 34, j, (D.kds.map kdC).flatten, .slice A1 j c1⟩]) ((idv (pid q1).1)) (kdC (bstr x1, (pid q1).1)) (fun v => OW w B (fun u => RRdr u gR (pid q1).2 ∧ Blk u g2 25 #[.slice none 0 0, .slice none 0 0]) gN 25 #[.slice none 0 0, .slice A1 j c1] [⟨43, 2, 0, [], .slice none 0 0⟩, ⟨59, 34, j + 1, (D.kds.map kdC).flatten ++ (kdC (bstr x1, (pid q1).1)), v⟩]) (fun v => OW w B (fun u => RRdr u gR (pid q1).2 ∧ Blk u g2 25 #[.slice none 0 0, .slice none 0 0]) gN 25 #[.slice none 0 0, v] [⟨43, 2, 0, [], .slice none 0 0⟩, ⟨59, 34, j + 1, (D.kds.map kdC).flatten ++ (kdC (bstr x1, (pid q1).1)), v⟩]))) (by kernel_rfl) (by kernel_rfl) (CInv.start (OW.more hX1 (rget_stays hlRB hl2B) ((Ext.refl _).drew))) ?_ ?_
        · refine ⟨?o0, ?o1, ?o2, ?o3, ?o4, ?o5, ?o6, ?o7, ?o8, ?o9, trivial⟩
          case o0 =>
            intro f a u h hfi hp hq hcl
            have q6 : a.tmps[6]?.getD undef = .pointer (some ⟨gN, 0, none⟩) := h.agree.att (by decide)
            exact h.yield rfl rfl 53 rfl (by change 53 < 78; decide) rfl _ rfl (by go_simp)
          case o1 =>
            intro f a u h hfi hp hq hcl
            have q53 := h.att 0 rfl (pre_of hp 0 rfl)
            obtain ⟨xs, hx, hl⟩ := h.before 2 rfl (hq 7 _ rfl rfl)
            have hN := PushW.ahead (N := fun u => Blk u gN 25 #[.slice none 0 0, .slice A1 j c1]) hx (by omega) (fun _ h => h.nod) (fun _ h => h.nod) (fun _ _ h => h.nod)
            have c1 : u.cell? ⟨gN, 1, none⟩ = some (.slice A1 j c1) := hN.cell 1
            clear hN hx
            exact h.yield rfl rfl 54 rfl (by change 54 < 78; decide) rfl _ rfl (by go_simp)
          case o2 =>
            intro f a u h hfi hp hq hcl
            have q8 : a.tmps[8]?.getD undef = .string (bstr x1) := h.agree.att (by decide)
            exact h.yield rfl rfl 55 rfl (by change 55 < 78; decide) rfl _ rfl (by go_simp)
          case o3 =>
            intro f a u h hfi hp hq hcl
            have q4 : a.tmps[4]?.getD undef = .pointer (some ⟨gR, 0, none⟩) := h.agree.att (by decide)
            exact h.yield rfl rfl 56 rfl (by change 56 < 78; decide) rfl _ rfl (by go_simp)
          case o4 =>
            intro f a u h hfi hp hq hcl
            refine h.link hfi rfl rfl 0 _ rfl rfl (fun t ht => by cases ht; change 57 < 78; decide) rfl (fun k c d' hk hc => by omega) ?_
            intro xs hl hX hv
            obtain rfl : xs = [] := List.eq_nil_of_length_eq_zero hl
            have hX : OW w B (fun u => RRdr u gR q1 ∧ Blk u g2 25 #[.slice none 0 0, .slice none 0 0]) gN 25 #[.slice none 0 0, .slice A1 j c1] [⟨43, 2, 0, [], .slice none 0 0⟩, ⟨59, 34, j, (D.kds.map kdC).flatten, .slice A1 j c1⟩] u := hX
            refine wp_call 42 #[.tmp 56] #[71] _ rfl (by kernel_rfl) (by rw [arr1, h.at_ 3 rfl (pre_of hp 3 rfl)]) (Calls.mono (rname15_calls gR q1 _ hX.rd.1 Hq1.out) ?_)
            rintro e u' ⟨rfl, hr1, ht1⟩
            exact ⟨_, rfl, _, rfl, rfl, hX.turn ht1 ⟨hr1, hX.rd.2.grown ht1 (by intro e; cases e; omega)⟩ (fun k hk => by cases hk; exact ⟨by omega, by omega, by omega⟩)⟩
          case o5 =>
            intro f a u h hfi hp hq hcl
            have q55 := h.att 2 rfl (pre_of hp 2 rfl)
            obtain ⟨xs, hx, hl, _, e57⟩ := h.got 0 rfl (pre_of hp 4 rfl)
            exact h.yield rfl rfl 58 rfl (by change 58 < 78; decide) rfl _ rfl (run_of_sem (exec_build rfl (by rw [arr2]; simp only [h.at_ 2 rfl (pre_of hp 2 rfl), show a.eval (.tmp 57) = _ from e57.trans (PushW.first hx hl)]; rfl)) (build_kid _ _ _ (pid_len _)))
          case o6 =>
            intro f a u h hfi hp hq hcl
            refine h.link hfi rfl rfl 1 _ rfl rfl (fun t ht => by cases ht; change 59 < 78; decide) rfl (fun k c d' hk hc => by (have hk0 : k = 0 := (by omega)); subst hk0; cases hc; exact (pre_cl hcl rfl (pre_of hp 5 rfl) 4 rfl)) ?_
            intro xs hl hX hv
            obtain ⟨s, rfl⟩ := len1 hl
            obtain ⟨hs, hX⟩ : s = _ ∧ OW w B (fun u => RRdr u gR (pid q1).2 ∧ Blk u g2 25 #[.slice none 0 0, .slice none 0 0]) gN 25 #[.slice none 0 0, .slice A1 j c1] [⟨43, 2, 0, [], .slice none 0 0⟩, ⟨59, 34, j, (D.kds.map kdC).flatten, .slice A1 j c1⟩] u := hX
            have e58 := h.at_ 4 rfl (pre_of hp 5 rfl)
            refine wp_val (exec_buildSlice rfl (by rw [arr1]; simp only [show a.eval (.tmp 58) = _ from e58]; rfl)) (lit1_kid _ _ _ (pid_len _)) ?_
            exact ⟨_, rfl, hs, ⟨_, rfl, Cells.lit rfl (kdC (bstr x1, (pid q1).1)) _ _⟩, hX.more (rget_stays hlRB hl2B) ((Ext.refl _).alloc _)⟩
          case o7 =>
            intro f a u h hfi hp hq hcl
            refine h.link hfi rfl rfl 2 _ rfl rfl (fun t ht => by cases ht; change 60 < 78; decide) rfl (fun k c d' hk hc => by (have hk0 : k = 1 := (by omega)); subst hk0; cases hc; exact (pre_of hp 6 rfl)) ?_
            intro xs hl hX hv
            obtain ⟨s, l, rfl⟩ := len2 hl
            obtain ⟨hs, ⟨g, rfl, hc⟩, hX⟩ : s = _ ∧ (∃ g, l = _ ∧ _) ∧ OW w B (fun u => RRdr u gR (pid q1).2 ∧ Blk u g2 25 #[.slice none 0 0, .slice none 0 0]) gN 25 #[.slice none 0 0, .slice A1 j c1] [⟨43, 2, 0, [], .slice none 0 0⟩, ⟨59, 34, j, (D.kds.map kdC).flatten, .slice A1 j c1⟩] u := hX
            have el := hv 1 _ _ rfl (by decide)
            refine wp_append u (.tmp 54) (.tmp 59) 23 rfl B 59 (.agg (.string ByteArray.empty :: bv idNone).toArray) 34 56 Try.underlying23 (by kernel_rfl) rfl (by decide) _ j _ (h.at_ 1 rfl (pre_of hp 1 rfl)) (hX.own 1 _ rfl) (some ⟨g, 0, none⟩) 1 1 (kdC (bstr x1, (pid q1).1)) el (kdC_len (pid_len _)) hc (kdC_one _) (by simp only [maxLen]; omega) (by omega) hX.hB ?_
            intro v' u' ho hg hf
            exact ⟨_, rfl, hs, hX.app (rget_stays hlRB hl2B) hlNB hl0B (i := 1) rfl ho hg hf⟩
          case o8 =>
            intro f a u h hfi hp hq hcl
            have q6 : a.tmps[6]?.getD undef = .pointer (some ⟨gN, 0, none⟩) := h.agree.att (by decide)
            exact h.yield rfl rfl 61 rfl (by change 61 < 78; decide) rfl _ rfl (by go_simp)
          case o9 =>
            intro f a u h hfi hp hq hcl
            refine h.link hfi rfl rfl 3 _ rfl rfl (fun t ht => by cases ht) rfl (fun k c d' hk hc => by (have hk0 : k = 2 := (by omega)); subst hk0; cases hc; exact (pre_of hp 7 rfl)) ?_
            intro xs hl hX hv
            obtain ⟨s, l, v, rfl⟩ := len3 hl
            obtain ⟨hs, hX⟩ : s = _ ∧ OW w B (fun u => RRdr u gR (pid q1).2 ∧ Blk u g2 25 #[.slice none 0 0, .slice none 0 0]) gN 25 #[.slice none 0 0, .slice A1 j c1] [⟨43, 2, 0, [], .slice none 0 0⟩, ⟨59, 34, j + 1, (D.kds.map kdC).flatten ++ (kdC (bstr x1, (pid q1).1)), v⟩] u := hX
            have ev := hv 2 _ _ rfl (by decide)
            obtain ⟨Av, cv, hvv, _, _, _⟩ := own_form (hX.own 1 _ rfl) (by show 0 < 34; decide)
            have hvv : v = .slice Av (j + 1) cv := hvv
            subst hvv
            have c1 : u.cell? ⟨gN, 1, none⟩ = some (.slice A1 j c1) := hX.nod.cell 1
            have f1 := hX.nod.frozen 1
            refine wp_store_cell 23 (.tmp 61) (.tmp 60) rfl rfl (h.at_ 5 rfl (pre_of hp 8 rfl)) ev (st_kids _ _ _ _ _ _ c1 f1) ?_
            exact ⟨.tuple #[], rfl, hs, hX.sto (grown_set u gN 1 _) (blk_set hX.nod 1 _) (rget_after hX.rd hlRN (by omega) _ _) hlNB hl0N⟩
        · intro f a u h hall hfar
          obtain ⟨xs, hxl, hX, hv⟩ := h.done (by intro c hc; simp only [List.mem_cons, List.not_mem_nil, or_false] at hc; rcases hc with rfl | rfl | rfl | rfl; all_goals exact hall _ (by decide))
          obtain ⟨s, l, v, t, rfl⟩ := len4 hxl
          have hX : OW w B (fun u => RRdr u gR (pid q1).2 ∧ Blk u g2 25 #[.slice none 0 0, .slice none 0 0]) gN 25 #[.slice none 0 0, v] [⟨43, 2, 0, [], .slice none 0 0⟩, ⟨59, 34, j + 1, (D.kds.map kdC).flatten ++ (kdC (bstr x1, (pid q1).1)), v⟩] u := hX.2
          have hag := h.agree.out
          simp only [List.foldl_cons, List.foldl_nil, Act.put, List.setIfInBounds_toArray, List.set_cons_zero, List.set_cons_succ] at hag
          generalize a.eval (.tmp 53) = y53 at hag
          generalize a.eval (.tmp 54) = y54 at hag
          generalize a.eval (.tmp 55) = y55 at hag
          generalize a.eval (.tmp 56) = y56 at hag
          generalize a.eval (.tmp 57) = y57 at hag
          generalize a.eval (.tmp 58) = y58 at hag
          generalize a.eval (.tmp 59) = y59 at hag
          generalize a.eval (.tmp 60) = y60 at hag
          generalize a.eval (.tmp 61) = y61 at hag
          clear h hall hfar hxl hv
          subst hag
          obtain ⟨Av1, cv1, hvv, lv, mv, hcv⟩ := own_form (hX.own 1 _ rfl) (by show 0 < 34; decide)
          have hvv : v = .slice Av1 (j + 1) cv1 := hvv
          subst hvv
          clear lv mv hcv
          go_wp2
          go_roundg gk'
          case measure => omega
          case rel =>
            rw [kds_snoc] at hX
            exact ⟨j + 1, ⟨D.prs, D.kds ++ [(bstr x1, (pid q1).1)], (pid q1).2⟩, Av1, cv1, by go_num, by omega, Lib.hid (by show _ = tstep false (tsteps false r0 j); rw [← hD.out]; first | (simp only [tstep, Htx.out, if_true, Bool.false_eq_true, if_false]; done) | (simp only [tstep, Htx.out]; try rfl)), hX⟩
    · obtain rfl : j = cnt := by omega
      clear hlt hS
      have hge : ¬ (j : Int) < (j : Int) := by omega
      have hend := rrend_calls gR _ wr hX0.rd.1
      obtain ⟨hlp, hlk⟩ := tsteps_len false r0 j
      obtain ⟨hsp, hsk, _⟩ := tsteps_sizes false r0 140737488351232 hbl0 j
      have HDD := Lib.hid HD.out
      rw [← hD.out] at hlp hlk hsp hsk HDD
      simp only [if_true, if_false, Bool.false_eq_true] at hlp hlk
      obtain ⟨t, ht⟩ : ∃ t : Tr, t = ⟨D.prs, D.kds⟩ := ⟨_, rfl⟩
      have hemp : D.prs = [] := List.eq_nil_of_length_eq_zero hlp
      have hNd : TrAt wr t none A1 0 j 0 c1 := by
        subst ht
        refine get_fin _ (nc := #[.slice none 0 0, .slice A1 j c1]) (by rw [hemp]; exact hX0) hlp hlk (by omega) (by omega) hsp hsk
      have hf1 := ow_addr hX0 1 rfl rfl
      have hok : tOk 2 D = (D.r.end_ && (t.good && (!(2 == 2 && D.kds.length == 0) && (2 == 1 || 2 == 2)))) := by rw [ht]; rfl
      have hdd : dd = if tOk 2 D then some t else none := by rw [HDD.out, ht]
      have hemt : D.kds.length = 0 → t = ⟨[], []⟩ := fun hk => by rw [ht, List.eq_nil_of_length_eq_zero hk, hemp]
      have HEMT := Lib.hid hemt
      have HOK := Lib.hid hok
      have HDd := Lib.hid hdd
      have HNd := Lib.hid hNd
      have hN := hX0.nod
      have hres := hX0.rd.2
      have hxe := hX0.ext
      have HN := Lib.hid hN
      have HLK := Lib.hid hlk
      clear hlp hlk hsp hsk hNd ht hX0 hN hD hok hdd hemp hDok hjk HDD hemt
      obtain ⟨c0, c1'⟩ := tree_cells HN.out
      cases hbad : D.r.end_ with
      | false =>
        rw [hbad] at hend
        have hdn : dd = none := by rw [HDd.out, HOK.out, hbad]; rfl
        go_wp2_with (first
          | (go_at_call 43; ((with_reducible refine hend.mono ?_); rintro e w' ⟨rfl, rfl⟩))
          | (refine wpList_store_blk rfl 25 (.tmp 2) (.tmp 76) rfl rfl g2 #[.slice none 0 0, .slice none 0 0] rfl rfl _ _ hres rfl (by kernel_rfl) (by simp [Value.oneCell']) ?_; intro w5 hb5 hg5))
        refine bodyPost_ret (results_row_tmp (P := Try.prog) (fn := Try.f20) rfl _ _ g2 25 #[.slice none 0 0, .slice none 0 0] _ rfl hb5 Try.underlying25 rfl (by kernel_rfl)) rfl ?_
        exact trPost_none rfl ((hxe).grown_ hg5 (by intro k hk; cases hk; exact hl2w)) hdn
      | true =>
        rw [hbad] at hend
        have hgc := rgoodTree_calls t none A1 0 j 0 c1 wr HNd.out
        cases hg : t.good with
        | false =>
          rw [hg] at hgc
          have hdn : dd = none := by rw [HDd.out, HOK.out, hbad, hg]; rfl
          go_wp2_with (first
            | (go_at_call 43; ((with_reducible refine hend.mono ?_); rintro e w' ⟨rfl, rfl⟩))
            | (go_at_call 17; ((with_reducible refine hgc.mono ?_); rintro e w4 ⟨rfl, hx4⟩; have hres4 := hres.ext hx4))
            | (refine wpList_store_blk rfl 25 (.tmp 2) (.tmp 76) rfl rfl g2 #[.slice none 0 0, .slice none 0 0] rfl rfl _ _ hres4 rfl (by kernel_rfl) (by simp [Value.oneCell']) ?_; intro w5 hb5 hg5))
          refine bodyPost_ret (results_row_tmp (P := Try.prog) (fn := Try.f20) rfl _ _ g2 25 #[.slice none 0 0, .slice none 0 0] _ rfl hb5 Try.underlying25 rfl (by kernel_rfl)) rfl ?_
          exact trPost_none rfl ((hxe.trans hx4).grown_ hg5 (by intro k hk; cases hk; exact hl2w)) hdn
        | true =>
          rw [hg] at hgc
          have hrt := fun w' h' => rtree_calls t none A1 0 j 0 c1 w' h' hg
          by_cases hj : (j : Int) = 0
          · have hj0 : j = 0 := by omega
            have hdn : dd = none := by
              rw [HDd.out, HOK.out, hbad, hg, HLK.out, hj0]
              rfl
            have htn := HEMT.out (by rw [HLK.out]; exact hj0)
            have htb : t.bytes = [1, 0] := by rw [htn]; rfl
            rw [htb] at hrt
            have hneq : ((bstr [1, 0]).toList == (bstr bs).toList) = false := by rw [str_beq, hbs.out]; exact decide_eq_false (fun e => by injection e with e _; exact absurd e (by decide))
            have hneq2 : ¬ (bstr [1, 0]).toList = (bstr bs).toList := beq_eq_false_iff_ne.1 hneq
            have hneq3 : ((bstr [1, 0]).toList != (bstr bs).toList) = true := bne_iff_ne.2 hneq2
            clear htn htb hj0
            go_wp2_with (first
              | (go_at_call 43; ((with_reducible refine hend.mono ?_); rintro e w' ⟨rfl, rfl⟩))
              | (go_at_call 17; ((with_reducible refine hgc.mono ?_); rintro e w4 ⟨rfl, hx4⟩; clear c0 c1'; obtain ⟨c0, c1'⟩ := tree_cells (HN.out.ext hx4)))
              | (go_at_call 15; ((with_reducible refine (hrt _ (HNd.out.ext hx4)).mono ?_); rintro e w4' ⟨rfl, hx4'⟩; have hx44 := hx4.trans hx4'; have hres4 := hres.ext hx44; clear c0 c1'; obtain ⟨c0, c1'⟩ := tree_cells (HN.out.ext hx44)))
              | (refine wpList_store_blk rfl 25 (.tmp 2) (.tmp 76) rfl rfl g2 #[.slice none 0 0, .slice none 0 0] rfl rfl _ _ hres4 rfl (by kernel_rfl) (by simp [Value.oneCell']) ?_; intro w5 hb5 hg5))
            refine bodyPost_ret (results_row_tmp (P := Try.prog) (fn := Try.f20) rfl _ _ g2 25 #[.slice none 0 0, .slice none 0 0] _ rfl hb5 Try.underlying25 rfl (by kernel_rfl)) rfl ?_
            exact trPost_none rfl ((hxe.trans hx44).grown_ hg5 (by intro k hk; cases hk; exact hl2w)) hdn
          · have hds : dd = some t := by
              rw [HDd.out, HOK.out, hbad, hg, HLK.out, beq_eq_false_iff_ne.2 (show j ≠ 0 by omega)]
              rfl
            have hbytes := HSM.out t hds
            rw [hbytes] at hrt
            go_wp2_with (first
              | (go_at_call 43; ((with_reducible refine hend.mono ?_); rintro e w' ⟨rfl, rfl⟩))
              | (go_at_call 17; ((with_reducible refine hgc.mono ?_); rintro e w4 ⟨rfl, hx4⟩; clear c0 c1'; obtain ⟨c0, c1'⟩ := tree_cells (HN.out.ext hx4)))
              | (go_at_call 15; ((with_reducible refine (hrt _ (HNd.out.ext hx4)).mono ?_); rintro e w4' ⟨rfl, hx4'⟩; have hx44 := hx4.trans hx4'; have hres4 := hres.ext hx44; clear c0 c1'; obtain ⟨c0, c1'⟩ := tree_cells (HN.out.ext hx44)))
              | (refine wpList_store_blk rfl 25 (.tmp 2) (.tmp 77) rfl rfl g2 #[.slice none 0 0, .slice A1 j c1] rfl rfl _ _ hres4 rfl (by kernel_rfl) (by simp [Value.oneCell']) ?_; intro w5 hb5 hg5))
            refine bodyPost_ret (results_row_tmp (P := Try.prog) (fn := Try.f20) rfl _ _ g2 25 #[.slice none 0 0, .slice A1 j c1] _ rfl hb5 Try.underlying25 rfl (by kernel_rfl)) rfl ?_
            exact trPost_some rfl (hxe.trans hx44) hg5 hl2w hl2B hds (HNd.out.ext hx44) (fun x h => by cases h) hf1

/-- The reference's GetTree: the tree of bytes. -/
theorem rgetTree_calls (bs : List UInt8) (w : World) (hl : bs.length ≤ 140737488351232) :
    Calls Try.prog 20 #[.string (bstr bs)] w fun e w' => TrPost fOk (decT bs) w e w' := by
  match bs, hl with
  | [], hl => exact rgetTree_few [] w hl (by decide)
  | [x], hl => exact rgetTree_few [x] w hl (by show 1 < 2; decide)
  | h :: n1 :: b, hl =>
    show Calls _ _ _ _ fun e w' => TrPost fOk (decTB h n1 b) w e w'
    by_cases h1 : h = 1
    · subst h1
      exact rgetTree_leaf n1 b _ w (Lib.hid rfl) hl n1.toNat rfl
    · by_cases h2 : h = 2
      · subst h2
        exact rgetTree_kids n1 b _ w (Lib.hid rfl) hl n1.toNat rfl
      · have hd : decTB h n1 b = none := by
          unfold decTB tOk
          rw [beq_eq_false_iff_ne.2 h1, beq_eq_false_iff_ne.2 h2]
          simp
        rw [hd]
        exact rgetTree_head h n1 b _ w (Lib.hid rfl) hl (fun e => h1 (UInt8.toNat_inj.1 (by show h.toNat = 1; omega))) (fun e => h2 (UInt8.toNat_inj.1 (by show h.toNat = 2; omega)))
end Go.Proofs.Ythepbcomeimcnaa
