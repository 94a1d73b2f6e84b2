/- TreeCounts: the walk. Printed by wip/mktreecounts.py. -/
import Derived.Test.YtcnhbodemabbdaaDoorQ45
namespace Go.Proofs.YtcnhbodemabbdaaDoor
open Go.RowKit
set_option linter.unusedVariables false

theorem buildT_len (k : UInt8) (ps : List Pr) : (buildT k ps).1.length = max ((ps.length + 3) / 4) 1 + countUp (max ((ps.length + 3) / 4) 1) (max ((ps.length + 3) / 4) 1) := by
  have h1 : (leafO k ps).length = max ((ps.length + 3) / 4) 1 := by unfold leafO; rw [List.length_map, chunks_len _ ps (Nat.le_refl _)]
  have h2 : (leafR k ps).length = max ((ps.length + 3) / 4) 1 := by unfold leafR; rw [List.length_map, chunks_len _ ps (Nat.le_refl _)]
  unfold buildT
  rw [List.length_append, h1, upAll_len k _ (leafR k ps) (Nat.le_refl _) (by rw [h2]; omega), h2]
theorem countUp_le : ∀ f r : Nat, countUp f r ≤ f * (r + 2)
  | 0, r => by simp [countUp]
  | f + 1, r => by
    unfold countUp
    split
    · have := countUp_le f ((r + 2) / 3)
      have h2 : f * ((r + 2) / 3 + 2) ≤ f * (r + 2) := Nat.mul_le_mul_left f (by omega)
      rw [Nat.succ_mul]
      omega
    · exact Nat.zero_le _
/-- What Build answers, its kinds told apart. -/
theorem BuildP.cases {k : UInt8} {ps : List Pr} {w w' : World} {e : Ending} (h : BuildP k ps w e w') :
    (∃ (A : Option Addr) (c : Nat), goodT ps = true ∧ 0 < idN k ∧ e = .returned (.tuple #[.agg (bv (buildT k ps).2).toArray, .slice A (buildT k ps).1.length c, .int .i64 0]) ∧ OwnO w.heap.size w' (.slice A (buildT k ps).1.length c) (buildT k ps).1 ∧ Ext w w') ∨
    (∃ q : Nat, ¬ (0 < idN k ∧ goodT ps = true) ∧ q ≠ 0 ∧ q = (if 0 < idN k ∧ 256 < ps.length then 3 else 1) ∧ e = .returned (.tuple #[.agg (bv idNone).toArray, .slice none 0 0, .int .i64 (q : Int)]) ∧ Ext w w') := by
  obtain ⟨h, hx⟩ := h
  rcases h with ⟨h1, h2, v, rfl, ho⟩ | ⟨h1, rfl⟩
  · obtain ⟨A, c, rfl, _, _, _⟩ := ho.form
    exact .inl ⟨A, c, h2, h1, rfl, ho, hx⟩
  · refine .inr ⟨if 0 < idN k ∧ 256 < ps.length then 3 else 1, h1, by split <;> decide, rfl, ?_, hx⟩
    split <;> rfl
theorem upAll_root (k : UInt8) (hk : 0 < idN k) : ∀ (f : Nat) (row : List Kd), row.length ≤ f → row.length ≠ 0 → RowOk k row → (upAll k row).2.length = 33
  | 0, row, h, h0, _ => by omega
  | f + 1, row, h, h0, hr => by
    by_cases h1 : 1 < row.length
    · have hl := upRow_len k row.length row (Nat.le_refl _) (by omega)
      have hls := upRow_less k h1
      rw [upAll_more k h1]
      exact upAll_root k hk f _ (by omega) (by rw [hl.1]; omega) (upRow_ok k hk _ row (Nat.le_refl _) hr)
    · obtain ⟨x, rfl⟩ := List.length_eq_one_iff.1 (show row.length = 1 by omega)
      rw [upAll_one k h1]
      exact (hr.each x (by simp)).2.1
theorem buildT_root {k : UInt8} (hk : 0 < idN k) {ps : List Pr} (h : goodT ps = true) : (buildT k ps).2.length = 33 := by
  have hp : PrsOk ps := prs_ok (by unfold goodT at h; simp only [Bool.and_eq_true] at h; exact h.2)
  unfold buildT
  exact upAll_root k hk _ _ (Nat.le_refl _) (by unfold leafR; rw [List.length_map, chunks_len _ ps (Nat.le_refl _)]; omega) (leafR_ok k hk _ ps (Nat.le_refl _) hp)

set_option maxRecDepth 100000 in
set_option maxHeartbeats 8000000 in
theorem treeCounts_calls (k : UInt8) (ps : List Pr) (A : Option Addr) (n c : Nat) (w : World) (hr : Row w A 2 (ps.map prC)) (hn : ps.length = n) (hnc : n ≤ c) (hl : n ≤ 140737488351232) (hs : ∀ p ∈ ps, p.1.size ≤ 140737488351232 ∧ p.2.size ≤ 140737488351232) (hT : Tab w) :
    Calls Tryd.prog 4 #[.int .u8 k.toNat, .slice A n c] w fun e w' => e = .returned (.bool true) ∧ Ext w w' := by
  have HAL := Lib.hid (talive_calls w hT)
  have HGR := Lib.hid (fun (u : World) (hu : Ext w u) => tgreat_calls ps A n c u (hr.ext hu) hn hl hs)
  have HBD := Lib.hid (fun (u : World) (hu : Ext w u) => build_calls k ps A n c u (hr.ext hu) hn hnc hl hs (hT.ext hu))
  obtain ⟨R, hR⟩ : ∃ R, max ((n + 3) / 4) 1 = R := ⟨_, rfl⟩
  have hlen := buildT_len k ps
  rw [hn, hR] at hlen
  have HLEN := Lib.hid hlen
  clear hr hn hs hT hlen
  go_enter Tryd.func4, Tryd.ntmps4
  go_upto_region 3 with (go_at_call 10; (with_reducible refine HAL.out.mono ?_); rintro e w1 ⟨rfl, hx1⟩)
  go_upto_region 4 with (go_at_call 11; (with_reducible refine (HGR.out w1 hx1).mono ?_); rintro e w2 ⟨⟨gb, rfl, hgb⟩, hx2⟩; rcases gb with _ | _)
  · have hn300 : n ≤ 300 := hgb trivial
    (with_reducible refine Calls.mono (HBD.out w2 (hx1.trans hx2)) ?_)
    rintro e w3 hb
    have hx12 := hx1.trans hx2
    rcases hb.cases with ⟨A3, c3, hgd, hk, rfl, ho, hx3⟩ | ⟨q, hbad, hq0, hq, rfl, hx3⟩
    · have hr33 := buildT_root hk hgd
      obtain ⟨rt, hrt⟩ : ∃ r, (buildT k ps).2 = r := ⟨_, rfl⟩
      obtain ⟨N, hN⟩ : ∃ r, (buildT k ps).1.length = r := ⟨_, rfl⟩
      have hlen := HLEN.out
      rw [hrt] at hr33 ⊢
      rw [hN] at hlen ⊢
      have HRT := Lib.hid hr33
      clear hr33 hrt ho hgd hk hN HAL HGR HBD hb
      go_upto_region 6 with (refine wpList_store_blk rfl 27 (.tmp 5) (.tmp 18) rfl rfl w3.heap.size (bv rt).toArray rfl rfl _ _ (Blk.new w3 _ _) (by rw [List.size_toArray, bv_length, show (rt : List UInt8).length = 33 from HRT.out]; rfl) (by kernel_rfl) (fun v hv => bv_cells _ v (by simpa using hv)) ?_; intro w4 hb5 hg5; have hx34 : Ext w3 w4 := ((Ext.refl _).alloc _).grown_ hg5 (fun j e => by cases e; exact Nat.le_refl _); clear hg5)
      have hx4 := (hx12.trans hx3).trans hx34
      have hNb : N ≤ 1000000 := by
        rw [hlen]
        have h1 := countUp_le R R
        have h2 : R ≤ 300 := by omega
        have h3 : R * (R + 2) ≤ 300 * 302 := Nat.mul_le_mul h2 (by omega)
        omega
      clear hx34 hb5 HLEN
      by_cases hn0 : n = 0
      · have hmx : (1 : Int) > ((n : Int) + 3) / 4 := by omega
        have hR1 : R = 1 := by omega
        clear hR
        go_upto_region 10 with (fail)
        go_loopw [8, 9] (fun u v wr => ∃ (r m f : Nat), u = .int .i64 r ∧ v = .int .i64 m ∧ 1 ≤ r ∧ r ≤ 300 ∧ r ≤ f ∧ Hid (m + countUp f r = N) ∧ m ≤ 1000000 ∧ Ext w wr) (fun u _ _ => (intOf u).toNat)
        case atStart => exact ⟨R, R, R, by rw [hR1]; rfl, by rw [hR1]; rfl, by omega, by omega, Nat.le_refl _, Lib.hid hlen.symm, by omega, hx4⟩
        case round =>
          obtain ⟨r, m, f, rfl, rfl, hr1, hr3, hrf, HC, hmN, hx⟩ := hrel
          by_cases hr : 1 < r
          · have hri : (1 : Int) < (r : Int) := by omega
            obtain ⟨f', rfl⟩ : ∃ f', f = f' + 1 := ⟨f - 1, by omega⟩
            have HC2 : Hid (m + ((r + 2) / 3) + countUp f' ((r + 2) / 3) = N) := Lib.hid (by
              have h := HC.out
              rw [countUp, if_pos hr] at h
              omega)
            obtain ⟨d, hd⟩ : ∃ d, (r + 2) / 3 = d := ⟨_, rfl⟩
            have hd3 : ((r : Int) + 2) / 3 = (d : Int) := by omega
            have hd1 : 1 ≤ d ∧ d ≤ 300 ∧ d ≤ f' ∧ d < r := by omega
            rw [hd] at HC2
            clear hd
            have hmb : m + d ≤ 1000000 := by have := HC2.out; have := hNb; omega
            clear HC
            go_wp2
            go_roundw
            case rel => exact ⟨d, m + d, f', by go_num, by go_num, by omega, by omega, by omega, HC2, hmb, hx⟩
            case measure => simp [intOf] <;> omega
          · have hri : ¬ (1 : Int) < (r : Int) := by omega
            have hmN2 : m = N := by
              have h := HC.out
              have h0 : countUp f r = 0 := by
                cases f with
                | zero => rfl
                | succ f => rw [countUp, if_neg hr]
              omega
            subst hmN2
            go_wp2
            go_ret
            exact ⟨rfl, hx⟩
      · have hmx : ¬ (1 : Int) > ((n : Int) + 3) / 4 := by omega
        have hR1 : ((n : Int) + 3) / 4 = (R : Int) := by omega
        clear hR
        go_upto_region 10 with (fail)
        go_loopw [8, 9] (fun u v wr => ∃ (r m f : Nat), u = .int .i64 r ∧ v = .int .i64 m ∧ 1 ≤ r ∧ r ≤ 300 ∧ r ≤ f ∧ Hid (m + countUp f r = N) ∧ m ≤ 1000000 ∧ Ext w wr) (fun u _ _ => (intOf u).toNat)
        case atStart => exact ⟨R, R, R, by go_num, by go_num, by omega, by omega, Nat.le_refl _, Lib.hid hlen.symm, by omega, hx4⟩
        case round =>
          obtain ⟨r, m, f, rfl, rfl, hr1, hr3, hrf, HC, hmN, hx⟩ := hrel
          by_cases hr : 1 < r
          · have hri : (1 : Int) < (r : Int) := by omega
            obtain ⟨f', rfl⟩ : ∃ f', f = f' + 1 := ⟨f - 1, by omega⟩
            have HC2 : Hid (m + ((r + 2) / 3) + countUp f' ((r + 2) / 3) = N) := Lib.hid (by
              have h := HC.out
              rw [countUp, if_pos hr] at h
              omega)
            obtain ⟨d, hd⟩ : ∃ d, (r + 2) / 3 = d := ⟨_, rfl⟩
            have hd3 : ((r : Int) + 2) / 3 = (d : Int) := by omega
            have hd1 : 1 ≤ d ∧ d ≤ 300 ∧ d ≤ f' ∧ d < r := by omega
            rw [hd] at HC2
            clear hd
            have hmb : m + d ≤ 1000000 := by have := HC2.out; have := hNb; omega
            clear HC
            go_wp2
            go_roundw
            case rel => exact ⟨d, m + d, f', by go_num, by go_num, by omega, by omega, by omega, HC2, hmb, hx⟩
            case measure => simp [intOf] <;> omega
          · have hri : ¬ (1 : Int) < (r : Int) := by omega
            have hmN2 : m = N := by
              have h := HC.out
              have h0 : countUp f r = 0 := by
                cases f with
                | zero => rfl
                | succ f => rw [countUp, if_neg hr]
              omega
            subst hmN2
            go_wp2
            go_ret
            exact ⟨rfl, hx⟩
    · have hq0i : ¬ (q : Int) = 0 := by omega
      clear hq hbad hb
      go_upto_region 6 with (refine wpList_store_blk rfl 27 (.tmp 5) (.tmp 18) rfl rfl w3.heap.size (bv idNone).toArray rfl rfl _ _ (Blk.new w3 _ _) (by rw [List.size_toArray, bv_length, show (idNone : List UInt8).length = 33 from rfl]; rfl) (by kernel_rfl) (fun v hv => bv_cells _ v (by simpa using hv)) ?_; intro w4 hb5 hg5; have hx34 : Ext w3 w4 := ((Ext.refl _).alloc _).grown_ hg5 (fun j e => by cases e; exact Nat.le_refl _); clear hg5)
      go_wp2
      go_ret
      exact ⟨rfl, (hx12.trans hx3).trans hx34⟩
  · go_wp2
    go_ret
    exact ⟨rfl, hx1.trans hx2⟩
end Go.Proofs.YtcnhbodemabbdaaDoor
