/- Whether pairs can be a tree: tree.Good, and the reference's. Printed by wip/mktreegood.py. -/
import Derived.Test.YtcnhbodemabbdaaDoorQ12
import Derived.Test.YtcnhbodemabbdaaDoorQ31
import Derived.BigQuiet
namespace Go.Proofs.YtcnhbodemabbdaaDoor
open Go.RowKit
set_option linter.unusedVariables false

set_option maxRecDepth 100000 in
set_option maxHeartbeats 8000000 in
theorem tgood_calls (ps : List Pr) (A : Option Addr) (n c : Nat) (w : World) (hr : Row w A 2 (ps.map prC)) (hn : ps.length = n) (hl : n ≤ 140737488351232) (hs : ∀ p ∈ ps, p.1.size ≤ 140737488351232 ∧ p.2.size ≤ 140737488351232) :
    Calls Tryd.prog 14 #[.slice A n c] w fun e w' => e = .returned (.bool (goodT ps)) ∧ Ext w w' := by
  have Hr := Lib.hid hr
  have Hn := Lib.hid hn
  have Hs := Lib.hid hs
  have HG : Hid (goodT ps = (decide (n ≤ 256) && (List.range n).all (prOk ps))) := Lib.hid (by unfold goodT; rw [hn])
  clear hr hn hs
  go_enter Tryd.func14, Tryd.ntmps14
  go_upto_region 2 with (fail)
  go_loopw [7] (fun i wr => ∃ (k : Nat), k ≤ n ∧ i = .int .i64 k ∧ Hid ((List.range k).all (prOk ps) = true) ∧ Ext w wr) (fun i _ => n - (intOf i).toNat)
  case atStart => exact ⟨0, Nat.zero_le _, rfl, Lib.hid rfl, Ext.refl _⟩
  case round =>
    obtain ⟨k, hk, rfl, HA, hx⟩ := hrel
    by_cases hlt : k < n
    · have hkl : k < ps.length := by rw [Hn.out]; exact hlt
      obtain ⟨x, rfl, r0, r1⟩ := pr_row (Hr.out.ext hx) hkl
      obtain ⟨hz0, hz1⟩ := Hs.out _ (List.getElem_mem hkl)
      obtain ⟨p, hp⟩ : ∃ p, p = ps[k] := ⟨_, rfl⟩
      rw [← hp] at r0 r1 hz0 hz1
      have hok : prOk ps k = (decide (p.1.size ≤ 16) && (decide (p.2.size ≤ 16) && (k == 0 || bslt (prAt ps (k - 1)).1 p.1))) := by
        unfold prOk
        rw [prAt_get' hkl, ← hp]
      have HOK := Lib.hid hok
      have HNO : Hid (prOk ps k = false → goodT ps = false) := Lib.hid (fun hf => by rw [HG.out, range_bad hlt hf, Bool.and_false])
      have hlc : ∀ (j : Nat) (v : Value), (prC p)[j]? = some v → wr.cell? ((x.add (k * 2)).add j) = some v := by
        intro j v hj
        match j, hj with
        | 0, hj => cases hj; exact r0
        | 1, hj => cases hj; exact r1
        | n + 2, hj => cases hj
      clear hp hok r0 r1
      have hp0 : (0 : Int) ≤ (k : Int) := by omega
      have hp1 : (k : Int) < (n : Int) := by omega
      go_upto_region 4 with (first
        | (refine wpList_load_row_ rfl 65 (.tmp 10) rfl (x.add (k * 2)) rfl (prC p) _ hlc Tryd.underlying65 rfl pr_info ?_)
        | (refine wpList_store_blk rfl 65 (.tmp 4) (.tmp 11) rfl rfl wr.heap.size (prC p).toArray rfl rfl _ _ (Blk.new wr _ _) rfl (by kernel_rfl) (prC_one p) ?_; intro w3 hb3 hg3; have hx3 : Ext wr w3 := ((Ext.refl _).alloc _).grown_ hg3 (by simp)))
      obtain ⟨q, hq⟩ : ∃ q, q = wr.heap.size := ⟨_, rfl⟩
      rw [← hq] at hb3 ⊢
      have hxx := hx.trans hx3
      obtain ⟨x0, x1⟩ := p
      obtain ⟨p0, p1⟩ := pair_cells hb3
      have p0' : w3.cell? ⟨q, 0, none⟩ = some (.string x0) := p0
      have p1' : w3.cell? ⟨q, 1, none⟩ = some (.string x1) := p1
      have hz0' : x0.size ≤ 140737488351232 := hz0
      have hz1' : x1.size ≤ 140737488351232 := hz1
      clear hlc hg3 hb3 hq hx3 p0 p1 hz0 hz1
      by_cases h16 : (16 : Int) < (x0.size : Int)
      · have HF : Hid (goodT ps = false) := Lib.hid (HNO.out (by rw [HOK.out, decide_eq_false (show ¬ x0.size ≤ 16 by omega), Bool.false_and]))
        go_quiet (fail)
        go_wp2
        go_ret
        exact ⟨ret_bool HF.out.symm, hxx.drewN _⟩
      by_cases h17 : (16 : Int) < (x1.size : Int)
      · have HF : Hid (goodT ps = false) := Lib.hid (HNO.out (by rw [HOK.out, decide_eq_false (show ¬ x1.size ≤ 16 by omega), Bool.false_and, Bool.and_false]))
        go_quiet (fail)
        go_wp2
        go_ret
        exact ⟨ret_bool HF.out.symm, hxx.drewN _⟩

      rcases Nat.eq_zero_or_pos k with rfl | hpos
      · have HT : Hid (prOk ps 0 = true) := Lib.hid (by rw [HOK.out, decide_eq_true (show x0.size ≤ 16 by omega), decide_eq_true (show x1.size ≤ 16 by omega)]; rfl)
        go_quiet (fail)
        go_wp2
        go_roundw
        case rel => exact ⟨1, by omega, by go_num, Lib.hid (range_snoc HA.out HT.out), hxx.drewN _⟩
        case measure => simp [intOf]; omega
      · obtain ⟨j, rfl⟩ : ∃ j, k = j + 1 := ⟨k - 1, by omega⟩
        obtain ⟨y, hy, r0, _⟩ := pr_row (Hr.out.ext hxx) (i := j) (by rw [Hn.out]; omega)
        cases hy
        have hjl : j < ps.length := by rw [Hn.out]; omega
        have eq : prAt ps (j + 1 - 1) = ps[j] := prAt_get' _
        obtain ⟨y0, hy0⟩ : ∃ q, q = (ps[j]).1 := ⟨_, rfl⟩
        have r0' : w3.cell? (x.add (j * 2)) = some (.string y0) := by rw [hy0]; exact r0
        have HOK2 : Hid (prOk ps (j + 1) = bslt y0 x0) := Lib.hid (by rw [HOK.out, eq, decide_eq_true (show x0.size ≤ 16 by omega), decide_eq_true (show x1.size ≤ 16 by omega), ← hy0]; rfl)
        have e1 : ((j + 1 : Nat) : Int) - 1 = (j : Int) := by omega
        have hp4 : (0 : Int) < ((j + 1 : Nat) : Int) := by omega
        have hp2 : (0 : Int) ≤ (j : Int) := by omega
        have hp3 : (j : Int) < (n : Int) := by omega
        clear r0 eq hy0 hjl
        cases hb : Op.bytesLess y0.toList x0.toList with
        | true =>
          have HT : Hid (prOk ps (j + 1) = true) := Lib.hid (HOK2.out.trans hb)
          have hb2 : (x0.toList == y0.toList) = false ∧ Op.bytesLess x0.toList y0.toList = false := by
            have h1 := less_tot y0.toList x0.toList
            rw [hb] at h1
            simp only [Bool.not_true] at h1
            have h2 := h1.symm
            rw [Bool.or_eq_false_iff] at h2
            exact ⟨h2.2, h2.1⟩
          obtain ⟨hb3, hb4⟩ := hb2
          have hb5 : (y0.toList == x0.toList) = false := by rw [beq_eq_false_iff_ne] at hb3 ⊢; exact fun e => hb3 e.symm
          go_quiet (fail)
          go_wp2
          go_roundw
          case rel => exact ⟨j + 1 + 1, by omega, by go_num, Lib.hid (range_snoc HA.out HT.out), hxx.drewN _⟩
          case measure => simp [intOf]; omega
        | false =>
          have HF : Hid (goodT ps = false) := Lib.hid (HNO.out (HOK2.out.trans hb))
          have hb2 : (Op.bytesLess x0.toList y0.toList || x0.toList == y0.toList) = true := by rw [← less_tot, hb]; rfl
          go_quiet (fail)
          go_wp2
          go_ret
          exact ⟨ret_bool HF.out.symm, hxx.drewN _⟩
    · obtain rfl : n = k := by omega
      by_cases h256 : (n : Int) ≤ 256
      · have HF : Hid (goodT ps = true) := Lib.hid (by rw [HG.out, HA.out, decide_eq_true (show n ≤ 256 by omega)]; rfl)
        go_wp2
        go_ret
        exact ⟨ret_bool (HF.out.symm), hx⟩
      · have HF : Hid (goodT ps = false) := Lib.hid (by rw [HG.out, decide_eq_false (show ¬ n ≤ 256 by omega)]; rfl)
        go_wp2
        go_ret
        exact ⟨ret_bool (HF.out.symm), hx⟩
set_option maxRecDepth 100000 in
set_option maxHeartbeats 8000000 in
theorem rtgood_calls (ps : List Pr) (A : Option Addr) (n c : Nat) (w : World) (hr : Row w A 2 (ps.map prC)) (hn : ps.length = n) (hl : n ≤ 140737488351232) (hs : ∀ p ∈ ps, p.1.size ≤ 140737488351232 ∧ p.2.size ≤ 140737488351232) :
    Calls Tryd.prog 13 #[.slice A n c] w fun e w' => e = .returned (.bool (goodT ps)) ∧ Ext w w' := by
  have Hr := Lib.hid hr
  have Hn := Lib.hid hn
  have Hs := Lib.hid hs
  have HG : Hid (goodT ps = (decide (n ≤ 256) && (List.range n).all (prOk ps))) := Lib.hid (by unfold goodT; rw [hn])
  clear hr hn hs
  go_enter Tryd.func13, Tryd.ntmps13
  by_cases h256 : (256 : Int) < (n : Int)
  · have HF : Hid (goodT ps = false) := Lib.hid (by rw [HG.out, decide_eq_false (show ¬ n ≤ 256 by omega)]; rfl)
    go_wp2
    go_ret
    exact ⟨ret_bool HF.out.symm, Ext.refl _⟩
  go_upto_region 4 with (fail)
  go_loopw [10] (fun i wr => ∃ (k : Nat), k ≤ n ∧ i = .int .i64 k ∧ Hid ((List.range k).all (prOk ps) = true) ∧ Ext w wr) (fun i _ => n - (intOf i).toNat)
  case atStart => exact ⟨0, Nat.zero_le _, rfl, Lib.hid rfl, Ext.refl _⟩
  case round =>
    obtain ⟨k, hk, rfl, HA, hx⟩ := hrel
    by_cases hlt : k < n
    · have hkl : k < ps.length := by rw [Hn.out]; exact hlt
      obtain ⟨x, rfl, r0, r1⟩ := pr_row (Hr.out.ext hx) hkl
      obtain ⟨hz0, hz1⟩ := Hs.out _ (List.getElem_mem hkl)
      obtain ⟨p, hp⟩ : ∃ p, p = ps[k] := ⟨_, rfl⟩
      rw [← hp] at r0 r1 hz0 hz1
      have hok : prOk ps k = (decide (p.1.size ≤ 16) && (decide (p.2.size ≤ 16) && (k == 0 || bslt (prAt ps (k - 1)).1 p.1))) := by
        unfold prOk
        rw [prAt_get' hkl, ← hp]
      have HOK := Lib.hid hok
      have HNO : Hid (prOk ps k = false → goodT ps = false) := Lib.hid (fun hf => by rw [HG.out, range_bad hlt hf, Bool.and_false])
      have hlc : ∀ (j : Nat) (v : Value), (prC p)[j]? = some v → wr.cell? ((x.add (k * 2)).add j) = some v := by
        intro j v hj
        match j, hj with
        | 0, hj => cases hj; exact r0
        | 1, hj => cases hj; exact r1
        | n + 2, hj => cases hj
      clear hp hok r0 r1
      have hp0 : (0 : Int) ≤ (k : Int) := by omega
      have hp1 : (k : Int) < (n : Int) := by omega
      go_upto_region 6 with (first
        | (refine wpList_load_row_ rfl 65 (.tmp 13) rfl (x.add (k * 2)) rfl (prC p) _ hlc Tryd.underlying65 rfl pr_info ?_)
        | (refine wpList_store_blk rfl 65 (.tmp 4) (.tmp 14) rfl rfl wr.heap.size (prC p).toArray rfl rfl _ _ (Blk.new wr _ _) rfl (by kernel_rfl) (prC_one p) ?_; intro w3 hb3 hg3; have hx3 : Ext wr w3 := ((Ext.refl _).alloc _).grown_ hg3 (by simp)))
      obtain ⟨q, hq⟩ : ∃ q, q = wr.heap.size := ⟨_, rfl⟩
      rw [← hq] at hb3 ⊢
      have hxx := hx.trans hx3
      obtain ⟨x0, x1⟩ := p
      obtain ⟨p0, p1⟩ := pair_cells hb3
      have p0' : w3.cell? ⟨q, 0, none⟩ = some (.string x0) := p0
      have p1' : w3.cell? ⟨q, 1, none⟩ = some (.string x1) := p1
      have hz0' : x0.size ≤ 140737488351232 := hz0
      have hz1' : x1.size ≤ 140737488351232 := hz1
      clear hlc hg3 hb3 hq hx3 p0 p1 hz0 hz1
      by_cases h16 : (16 : Int) < (x0.size : Int)
      · have HF : Hid (goodT ps = false) := Lib.hid (HNO.out (by rw [HOK.out, decide_eq_false (show ¬ x0.size ≤ 16 by omega), Bool.false_and]))
        go_wp2
        go_ret
        exact ⟨ret_bool HF.out.symm, hxx⟩
      by_cases h17 : (16 : Int) < (x1.size : Int)
      · have HF : Hid (goodT ps = false) := Lib.hid (HNO.out (by rw [HOK.out, decide_eq_false (show ¬ x1.size ≤ 16 by omega), Bool.false_and, Bool.and_false]))
        go_wp2
        go_ret
        exact ⟨ret_bool HF.out.symm, hxx⟩
      go_upto_region 8 with (fail)
      rcases Nat.eq_zero_or_pos k with rfl | hpos
      · have HT : Hid (prOk ps 0 = true) := Lib.hid (by rw [HOK.out, decide_eq_true (show x0.size ≤ 16 by omega), decide_eq_true (show x1.size ≤ 16 by omega)]; rfl)
        go_quiet (fail)
        go_wp2
        go_roundw
        case rel => exact ⟨1, by omega, by go_num, Lib.hid (range_snoc HA.out HT.out), hxx.drewN _⟩
        case measure => simp [intOf]; omega
      · obtain ⟨j, rfl⟩ : ∃ j, k = j + 1 := ⟨k - 1, by omega⟩
        obtain ⟨y, hy, r0, _⟩ := pr_row (Hr.out.ext hxx) (i := j) (by rw [Hn.out]; omega)
        cases hy
        have hjl : j < ps.length := by rw [Hn.out]; omega
        have eq : prAt ps (j + 1 - 1) = ps[j] := prAt_get' _
        obtain ⟨y0, hy0⟩ : ∃ q, q = (ps[j]).1 := ⟨_, rfl⟩
        have r0' : w3.cell? (x.add (j * 2)) = some (.string y0) := by rw [hy0]; exact r0
        have HOK2 : Hid (prOk ps (j + 1) = bslt y0 x0) := Lib.hid (by rw [HOK.out, eq, decide_eq_true (show x0.size ≤ 16 by omega), decide_eq_true (show x1.size ≤ 16 by omega), ← hy0]; rfl)
        have e1 : ((j + 1 : Nat) : Int) - 1 = (j : Int) := by omega
        have hp4 : (0 : Int) < ((j + 1 : Nat) : Int) := by omega
        have hp2 : (0 : Int) ≤ (j : Int) := by omega
        have hp3 : (j : Int) < (n : Int) := by omega
        clear r0 eq hy0 hjl
        cases hb : Op.bytesLess y0.toList x0.toList with
        | true =>
          have HT : Hid (prOk ps (j + 1) = true) := Lib.hid (HOK2.out.trans hb)
          have hb2 : (x0.toList == y0.toList) = false ∧ Op.bytesLess x0.toList y0.toList = false := by
            have h1 := less_tot y0.toList x0.toList
            rw [hb] at h1
            simp only [Bool.not_true] at h1
            have h2 := h1.symm
            rw [Bool.or_eq_false_iff] at h2
            exact ⟨h2.2, h2.1⟩
          obtain ⟨hb3, hb4⟩ := hb2
          have hb5 : (y0.toList == x0.toList) = false := by rw [beq_eq_false_iff_ne] at hb3 ⊢; exact fun e => hb3 e.symm
          go_quiet (fail)
          go_wp2
          go_roundw
          case rel => exact ⟨j + 1 + 1, by omega, by go_num, Lib.hid (range_snoc HA.out HT.out), hxx.drewN _⟩
          case measure => simp [intOf]; omega
        | false =>
          have HF : Hid (goodT ps = false) := Lib.hid (HNO.out (HOK2.out.trans hb))
          have hb2 : (Op.bytesLess x0.toList y0.toList || x0.toList == y0.toList) = true := by rw [← less_tot, hb]; rfl
          go_quiet (fail)
          go_wp2
          go_ret
          exact ⟨ret_bool HF.out.symm, hxx.drewN _⟩
    · obtain rfl : n = k := by omega
      have HF : Hid (goodT ps = true) := Lib.hid (by rw [HG.out, HA.out, decide_eq_true (show n ≤ 256 by omega)]; rfl)
      go_wp2
      go_ret
      exact ⟨ret_bool (HF.out.symm), hx⟩
def GreatP (n : Nat) (e : Ending) : Prop := ∃ b, e = .returned (.bool b) ∧ (b = false → n ≤ 300)
theorem GreatP.of (n : Nat) (b : Bool) (h : b = false → n ≤ 300) : GreatP n (.returned (.bool b)) := ⟨b, rfl, h⟩
set_option maxRecDepth 100000 in
set_option maxHeartbeats 8000000 in
theorem tgreat_calls (ps : List Pr) (A : Option Addr) (n c : Nat) (w : World) (hr : Row w A 2 (ps.map prC)) (hn : ps.length = n) (hl : n ≤ 140737488351232) (hs : ∀ p ∈ ps, p.1.size ≤ 140737488351232 ∧ p.2.size ≤ 140737488351232) :
    Calls Tryd.prog 11 #[.slice A n c] w fun e w' => GreatP n e ∧ Ext w w' := by
  have Hr := Lib.hid hr
  have Hn := Lib.hid hn
  have Hs := Lib.hid hs
  clear hr hn hs
  go_enter Tryd.func11, Tryd.ntmps11
  by_cases h300 : (300 : Int) < (n : Int)
  · go_wp2
    go_ret
    exact ⟨GreatP.of n true (fun h => by cases h), Ext.refl _⟩
  go_upto_region 5 with (fail)
  go_loopw [11, 3] (fun i v wr => ∃ (k m : Nat), k ≤ n ∧ i = .int .i64 k ∧ v = .int .i64 m ∧ m ≤ 8192 ∧ Ext w wr) (fun i _ _ => n - (intOf i).toNat)
  case atStart => exact ⟨0, 0, Nat.zero_le _, rfl, rfl, by omega, Ext.refl _⟩
  case round =>
    obtain ⟨k, m, hk, rfl, rfl, hm, hx⟩ := hrel
    by_cases hlt : k < n
    · have hkl : k < ps.length := by rw [Hn.out]; exact hlt
      obtain ⟨x, rfl, r0, r1⟩ := pr_row (Hr.out.ext hx) hkl
      obtain ⟨hz0, hz1⟩ := Hs.out _ (List.getElem_mem hkl)
      obtain ⟨p, hp⟩ : ∃ p, p = ps[k] := ⟨_, rfl⟩
      rw [← hp] at r0 r1 hz0 hz1
      have hlc : ∀ (j : Nat) (v : Value), (prC p)[j]? = some v → wr.cell? ((x.add (k * 2)).add j) = some v := by
        intro j v hj
        match j, hj with
        | 0, hj => cases hj; exact r0
        | 1, hj => cases hj; exact r1
        | n + 2, hj => cases hj
      clear hp r0 r1
      have hp0 : (0 : Int) ≤ (k : Int) := by omega
      have hp1 : (k : Int) < (n : Int) := by omega
      go_upto_region 7 with (first
        | (refine wpList_load_row_ rfl 65 (.tmp 13) rfl (x.add (k * 2)) rfl (prC p) _ hlc Tryd.underlying65 rfl pr_info ?_)
        | (refine wpList_store_blk rfl 65 (.tmp 5) (.tmp 14) rfl rfl wr.heap.size (prC p).toArray rfl rfl _ _ (Blk.new wr _ _) rfl (by kernel_rfl) (prC_one p) ?_; intro w3 hb3 hg3; have hx3 : Ext wr w3 := ((Ext.refl _).alloc _).grown_ hg3 (by simp)))
      obtain ⟨q, hq⟩ : ∃ q, q = wr.heap.size := ⟨_, rfl⟩
      rw [← hq] at hb3 ⊢
      have hxx := hx.trans hx3
      obtain ⟨x0, x1⟩ := p
      obtain ⟨p0, p1⟩ := pair_cells hb3
      have p0' : w3.cell? ⟨q, 0, none⟩ = some (.string x0) := p0
      have p1' : w3.cell? ⟨q, 1, none⟩ = some (.string x1) := p1
      have hz0' : x0.size ≤ 140737488351232 := hz0
      have hz1' : x1.size ≤ 140737488351232 := hz1
      clear hlc hg3 hb3 hq hx3 p0 p1 hz0 hz1
      by_cases hbig : (8192 : Int) < (m : Int) + ((x0.size : Int) + (x1.size : Int))
      · go_wp2
        go_ret
        exact ⟨GreatP.of n true (fun h => by cases h), hxx⟩
      · go_wp2
        go_roundw
        case rel => exact ⟨k + 1, m + (x0.size + x1.size), by omega, by go_num, by go_num, by omega, hxx⟩
        case measure => simp [intOf]; omega
    · obtain rfl : n = k := by omega
      go_wp2
      go_ret
      exact ⟨GreatP.of n false (fun _ => by omega), hx⟩
end Go.Proofs.YtcnhbodemabbdaaDoor
