/- The law's alive. Printed by wip/mktreealive.py. -/
import Derived.Test.YtcnhbodemabbdaaDoorQ45
import Derived.Test.YtcnhbodemabbdaaDoorQ47
import Derived.Test.YtcnhbodemabbdaaDoorQ48
namespace Go.Proofs.YtcnhbodemabbdaaDoor
open Go.RowKit
set_option linter.unusedVariables false

def ps5 : List Pr := [(⟨#[97]⟩, ⟨#[]⟩), (⟨#[98]⟩, ⟨#[]⟩), (⟨#[99]⟩, ⟨#[]⟩), (⟨#[100]⟩, ⟨#[]⟩), (⟨#[101]⟩, ⟨#[53]⟩)]
def ps5a : List Pr := [(⟨#[97]⟩, ⟨#[]⟩), (⟨#[98]⟩, ⟨#[]⟩), (⟨#[99]⟩, ⟨#[]⟩), (⟨#[100]⟩, ⟨#[]⟩)]
def ps5b : List Pr := [(⟨#[101]⟩, ⟨#[53]⟩)]
def ks5 : List Kd := [(⟨#[97]⟩, idPad (2 :: sha tr1)), (⟨#[101]⟩, idPad (2 :: sha tr2))]
theorem name2 (bs : List UInt8) : idName 2 bs = 2 :: sha bs := by
  unfold idName
  rw [if_neg (by decide), if_pos rfl]
theorem ps5_good : goodT ps5 = true := by kernel_rfl
theorem ps5a_bytes : (leafT ps5a).bytes = tr1 := by kernel_rfl
theorem ps5b_bytes : (leafT ps5b).bytes = tr2 := by kernel_rfl
theorem ks5_bytes : (upT ks5).bytes = tr3 := by
  unfold ks5
  rw [tr1_sha, tr2_sha]
  kernel_rfl
theorem o5a : objT 2 (leafT ps5a) = (idPad (2 :: sha tr1), bstr tr1) := by unfold objT; rw [ps5a_bytes, name2]
theorem o5b : objT 2 (leafT ps5b) = (idPad (2 :: sha tr2), bstr tr2) := by unfold objT; rw [ps5b_bytes, name2]
theorem o5c : objT 2 (upT ks5) = (idPad (2 :: sha tr3), bstr tr3) := by unfold objT; rw [ks5_bytes, name2]
theorem ps5_chunks : chunks ps5 = [ps5a, ps5b] := by
  rw [chunks_gt (by decide)]
  show ps5a :: chunks ps5b = _
  rw [chunks_le (by decide)]
theorem ps5_build : buildT 2 ps5 = ([(idPad (2 :: sha tr1), bstr tr1), (idPad (2 :: sha tr2), bstr tr2), (idPad (2 :: sha tr3), bstr tr3)], idPad (2 :: sha tr3)) := by
  have hr : leafR 2 ps5 = ks5 := by
    unfold leafR
    rw [ps5_chunks, List.map_cons, List.map_cons, List.map_nil, o5a, o5b]
    rfl
  have ho : leafO 2 ps5 = [(idPad (2 :: sha tr1), bstr tr1), (idPad (2 :: sha tr2), bstr tr2)] := by
    unfold leafO
    rw [ps5_chunks, List.map_cons, List.map_cons, List.map_nil, o5a, o5b]
  have hu : upRow 2 ks5 = ([(idPad (2 :: sha tr3), bstr tr3)], [(⟨#[97]⟩, idPad (2 :: sha tr3))]) := by
    rw [upRow_step 2 (by decide)]
    have e1 : ks5.take (grp ks5.length) = ks5 := rfl
    have e2 : ks5.drop (grp ks5.length) = [] := rfl
    rw [e1, e2, upRow_nil, o5c]
    rfl
  unfold buildT
  rw [hr, ho, upAll_more 2 (by decide), hu, upAll_one 2 (by decide)]
  rfl
theorem tr23 : (idPad (2 :: sha tr2) == idPad (2 :: sha tr3)) = false := by
  rw [tr2_sha, tr3_sha]
  decide
theorem at5c : at1 (idPad (idName 2 tr3)) (putAll (buildT 2 ps5).1 []) = some (bstr tr3) := by
  rw [ps5_build, name2]
  show at1 _ (put1 _ _ _) = _
  rw [at1_put, if_pos (beq_self_eq_true _)]
theorem at5b : at1 (idPad (idName 2 tr2)) (putAll (buildT 2 ps5).1 []) = some (bstr tr2) := by
  rw [ps5_build, name2]
  show at1 _ (put1 _ _ (put1 _ _ _)) = _
  rw [at1_put, if_neg (by rw [tr23]; decide), at1_put, if_pos (beq_self_eq_true _)]
theorem dec5c : decT tr3 = some (upT ks5) := by
  rw [← ks5_bytes]
  refine decT_of ?_ ?_
  · unfold ks5
    rw [tr1_sha, tr2_sha]
    kernel_rfl
  · intro x hx
    have h : x ∈ ks5 := hx
    unfold ks5 at h
    rw [tr1_sha, tr2_sha] at h
    rcases List.mem_cons.1 h with rfl | h
    · rfl
    · rcases List.mem_cons.1 h with rfl | h
      · rfl
      · cases h
theorem dec5b : decT tr2 = some (leafT ps5b) := by
  rw [← ps5b_bytes]
  exact decT_of (by kernel_rfl) (fun x hx => by cases hx)
theorem lit5 (w : World) : (Instr.buildSlice 22 5 #[(0, .agg #[.string ⟨#[97]⟩, .string ⟨#[]⟩]), (1, .agg #[.string ⟨#[98]⟩, .string ⟨#[]⟩]), (2, .agg #[.string ⟨#[99]⟩, .string ⟨#[]⟩]), (3, .agg #[.string ⟨#[100]⟩, .string ⟨#[]⟩]), (4, .agg #[.string ⟨#[101]⟩, .string ⟨#[53]⟩])]).run Tryd.prog w = .ok (.slice (some ⟨w.heap.size, 0, none⟩) 5 5) (w.alloc (.cells #[.string ⟨#[97]⟩, .string ⟨#[]⟩, .string ⟨#[98]⟩, .string ⟨#[]⟩, .string ⟨#[99]⟩, .string ⟨#[]⟩, .string ⟨#[100]⟩, .string ⟨#[]⟩, .string ⟨#[101]⟩, .string ⟨#[53]⟩] 65)) := by kernel_rfl
theorem ps5_row (w : World) : Row (w.alloc (.cells #[.string ⟨#[97]⟩, .string ⟨#[]⟩, .string ⟨#[98]⟩, .string ⟨#[]⟩, .string ⟨#[99]⟩, .string ⟨#[]⟩, .string ⟨#[100]⟩, .string ⟨#[]⟩, .string ⟨#[101]⟩, .string ⟨#[53]⟩] 65)) (some ⟨w.heap.size, 0, none⟩) 2 (ps5.map prC) := by
  have h := (Blk.new w 65 #[.string ⟨#[97]⟩, .string ⟨#[]⟩, .string ⟨#[98]⟩, .string ⟨#[]⟩, .string ⟨#[99]⟩, .string ⟨#[]⟩, .string ⟨#[100]⟩, .string ⟨#[]⟩, .string ⟨#[101]⟩, .string ⟨#[53]⟩]).cells
  intro i cs hi
  have hl : cs.length = 2 := by
    obtain ⟨p, _, rfl⟩ := List.mem_map.1 (List.mem_of_getElem? hi)
    rfl
  refine ⟨hl, _, rfl, fun j v hv => ?_⟩
  have hj : j < 2 := by rw [← hl]; exact (List.getElem?_eq_some_iff.1 hv).1
  have hi5 : i < 5 := (List.getElem?_eq_some_iff.1 hi).1
  rw [add_add]
  obtain ⟨x, hx, hc⟩ := h (i * 2 + j) v (by
    rw [List.toList_toArray]
    match i, hi5, hi with
    | 0, _, hi => cases hi; match j, hj, hv with | 0, _, hv => exact hv | 1, _, hv => exact hv
    | 1, _, hi => cases hi; match j, hj, hv with | 0, _, hv => exact hv | 1, _, hv => exact hv
    | 2, _, hi => cases hi; match j, hj, hv with | 0, _, hv => exact hv | 1, _, hv => exact hv
    | 3, _, hi => cases hi; match j, hj, hv with | 0, _, hv => exact hv | 1, _, hv => exact hv
    | 4, _, hi => cases hi; match j, hj, hv with | 0, _, hv => exact hv | 1, _, hv => exact hv)
  cases hx
  exact hc
theorem ps5_small : ∀ p ∈ ps5, p.1.size ≤ 140737488351232 ∧ p.2.size ≤ 140737488351232 := by
  intro p hp
  have h : ps5.all (fun p => decide (p.1.size ≤ 140737488351232) && decide (p.2.size ≤ 140737488351232)) = true := by kernel_rfl
  have := List.all_eq_true.1 h p hp
  simpa using this
theorem ps5_ids : ∀ p ∈ (buildT 2 ps5).1, p.1.length = 33 := by
  intro x hx
  rw [ps5_build] at hx
  rcases List.mem_cons.1 hx with rfl | hx
  · exact idPad_len (by rw [← name2]; exact idName_len _ _)
  · rcases List.mem_cons.1 hx with rfl | hx
    · exact idPad_len (by rw [← name2]; exact idName_len _ _)
    · rcases List.mem_cons.1 hx with rfl | hx
      · exact idPad_len (by rw [← name2]; exact idName_len _ _)
      · cases hx
theorem build5 (A : Option Addr) (c : Nat) (w : World) (hr : Row w A 2 (ps5.map prC)) (hc : 5 ≤ c) (hT : Tab w) :
    Calls Tryd.prog 12 #[.int .u8 2, .slice A 5 c] w fun e w' => ∃ A' c', e = .returned (.tuple #[.agg (bv (idPad (idName 2 tr3))).toArray, .slice A' 3 c', .int .i64 0]) ∧ Row w' A' 34 ((buildT 2 ps5).1.map obC) ∧ Ext w w' := by
  refine (build_calls 2 ps5 A 5 c w hr rfl hc (by decide) ps5_small hT).mono ?_
  rintro e w' ⟨h, hx⟩
  rcases h with ⟨_, _, v, rfl, ho⟩ | ⟨h, _⟩
  · obtain ⟨A', c', rfl, _, _, _⟩ := ho.form
    have h33 : ∀ x ∈ (buildT 2 ps5).1, x.1.length = 33 := by
      intro x hx
      rw [ps5_build] at hx
      rcases List.mem_cons.1 hx with rfl | hx
      · exact idPad_len (by rw [← name2]; exact idName_len _ _)
      · rcases List.mem_cons.1 hx with rfl | hx
        · exact idPad_len (by rw [← name2]; exact idName_len _ _)
        · rcases List.mem_cons.1 hx with rfl | hx
          · exact idPad_len (by rw [← name2]; exact idName_len _ _)
          · cases hx
    have hrow := ho.row h33
    refine ⟨A', c', ?_, hrow, hx⟩
    rw [ps5_build, name2]
    rfl
  · exact absurd ⟨by decide, ps5_good⟩ h

set_option maxRecDepth 100000 in
set_option maxHeartbeats 8000000 in
theorem talive_calls (w : World) (hT : Tab w) : Calls Tryd.prog 10 #[] w fun e w' => e = .returned (.bool true) ∧ Ext w w' := by
  have HT := Lib.hid hT
  clear hT
  go_enter Tryd.func10, Tryd.ntmps10
  obtain ⟨w1, hw1⟩ : ∃ w1, w1 = w.alloc (.cells #[.string ⟨#[97]⟩, .string ⟨#[]⟩, .string ⟨#[98]⟩, .string ⟨#[]⟩, .string ⟨#[99]⟩, .string ⟨#[]⟩, .string ⟨#[100]⟩, .string ⟨#[]⟩, .string ⟨#[101]⟩, .string ⟨#[53]⟩] 65) := ⟨_, rfl⟩
  have hx1 : Ext w w1 := by rw [hw1]; exact (Ext.refl _).alloc _
  have HR1 : Hid (Row w1 (some ⟨w.heap.size, 0, none⟩) 2 (ps5.map prC)) := Lib.hid (by rw [hw1]; exact ps5_row w)
  have hbp : (Instr.build 65 #[(0, .string ⟨#[101]⟩), (1, .string ⟨#[53]⟩)]).run Tryd.prog w = .ok (.agg #[.string ⟨#[101]⟩, .string ⟨#[53]⟩]) w := build_pair w _ _
  go_upto_region 2 with (first
    | (go_at_call 12; rw [← hw1]; (with_reducible refine (build5 _ _ w1 HR1.out (by decide) (HT.out.ext hx1)).mono ?_); rintro e w2 ⟨A2, c2, rfl, hr2, hx2⟩)
    | (refine wpList_store_blk rfl 27 (.tmp 1) (.tmp 16) rfl rfl w2.heap.size (bv (idPad (idName 2 tr3))).toArray rfl rfl _ _ (Blk.new w2 _ _) (by rw [List.size_toArray, bv_length, idPad_len (idName_len _ _)]; rfl) (by kernel_rfl) (fun v hv => bv_cells _ v (by simpa using hv)) ?_; intro w3 hb1 hg1; have hx3 : Ext w2 w3 := ((Ext.refl _).alloc _).grown_ hg1 (fun j e => by cases e; exact Nat.le_refl _)))
  have hx12 := hx1.trans hx2
  have hx13 := hx12.trans hx3
  have HR2 := Lib.hid (hr2.ext hx3)
  obtain ⟨g1, hg1e⟩ : ∃ g, g = w2.heap.size := ⟨_, rfl⟩
  rw [← hg1e] at hb1 ⊢
  have HB1 := Lib.hid hb1
  clear hr2 hb1 hg1 hx3 hx2 hx1 hw1 hbp HR1 hx12 hg1e
  go_upto_region 3 with (go_at_call 31; (with_reducible refine (newPool_calls w3).mono ?_); rintro e w4 ⟨gp, b, rfl, hgp, hbb, hP, hx4⟩)
  have hx14 := hx13.trans hx4
  have h1b : some g1 ≠ some b := fun e => by have := Option.some.inj e; have := HB1.out.lt; omega
  have HB14 := Lib.hid (HB1.out.ext hx4)
  have HR4 := Lib.hid (HR2.out.ext hx4)
  have HP := Lib.hid hP
  have hwb : w.heap.size ≤ b := Nat.le_trans hx13.size hbb
  have HI := Lib.hid ps5_ids
  clear hP hgp hbb hx4 HR2 HB1 hx13
  have HPU := Lib.hid (put_calls gp b [] (buildT 2 ps5).1 A2 3 c2 w4 HP.out HR4.out (by rw [ps5_build]; rfl) (by decide) HI.out)
  go_upto_region 4 with (go_at_call 32; (with_reducible refine HPU.out.mono ?_); rintro e w5 ⟨rfl, hP5, hg5⟩)
  have hx15 := hx14.grown_ hg5 (fun j e => by cases e; exact hwb)
  have HB15 := Lib.hid (HB14.out.grown hg5 h1b)
  have hcx : ∀ (j : Nat) (v : Value), (bv (idPad (idName 2 tr3)))[j]? = some v → w5.cell? ((⟨g1, 0, none⟩ : Addr).add j) = some v := fun j v hv => by
    have h1 := HB15.out.cells
    rw [List.toList_toArray] at h1
    obtain ⟨y, hy, hc⟩ := h1 j v hv
    cases hy
    exact hc
  have HCX := Lib.hid hcx
  have HF := Lib.hid (tfind_two gp b (putAll (buildT 2 ps5).1 []) 2 tr3 tr2 ⟨#[97]⟩ ⟨#[101]⟩ ⟨#[101]⟩ ⟨#[53]⟩ ⟨#[101]⟩ (idPad (2 :: sha tr1)) w5 hP5 (by decide) at5c at5b (by rw [name2]; exact dec5c) dec5b (idPad_len (by rw [← name2]; exact idName_len _ _)) (by kernel_rfl) (by kernel_rfl) (by kernel_rfl) (by decide) (by decide) (HT.out.ext hx15))
  clear hcx hP5 hg5 HP HR4 HB14 hx14
  go_upto_region 5 with (first
    | (refine wpList_load_row_ rfl 27 (.tmp 1) rfl ⟨g1, 0, none⟩ rfl (bv (idPad (idName 2 tr3))) _ HCX.out Tryd.underlying27 rfl (by rw [id_info, bv_length, idPad_len (idName_len _ _)]) ?_)
    | (go_at_call 33; (with_reducible refine HF.out.mono ?_); rintro e w6 ⟨rfl, hx6⟩))
  go_wp2
  go_ret
  exact ⟨rfl, hx15.trans hx6⟩
end Go.Proofs.YtcnhbodemabbdaaDoor
/- TreeCounts: the walk. Printed by wip/mktreecounts.py. -/
namespace Go.Proofs.YtcnhbodemabbdaaDoor
open Go.RowKit
set_option linter.unusedVariables false

theorem buildT_len (k : UInt8) (ps : List Pr) : (buildT k ps).1.length = max ((ps.length + 3) / 4) 1 + countUp (max ((ps.length + 3) / 4) 1) (max ((ps.length + 3) / 4) 1) := by
  have h1 : (leafO k ps).length = max ((ps.length + 3) / 4) 1 := by unfold leafO; rw [List.length_map, chunks_len _ ps (Nat.le_refl _)]
  have h2 : (leafR k ps).length = max ((ps.length + 3) / 4) 1 := by unfold leafR; rw [List.length_map, chunks_len _ ps (Nat.le_refl _)]
  unfold buildT
  rw [List.length_append, h1, upAll_len k _ (leafR k ps) (Nat.le_refl _) (by rw [h2]; omega), h2]
theorem countUp_le : ∀ f r : Nat, countUp f r ≤ f * (r + 2)
  | 0, r => by simp [countUp]
  | f + 1, r => by
    unfold countUp
    split
    · have := countUp_le f ((r + 2) / 3)
      have h2 : f * ((r + 2) / 3 + 2) ≤ f * (r + 2) := Nat.mul_le_mul_left f (by omega)
      rw [Nat.succ_mul]
      omega
    · exact Nat.zero_le _
/-- What Build answers, its kinds told apart. -/
theorem BuildP.cases {k : UInt8} {ps : List Pr} {w w' : World} {e : Ending} (h : BuildP k ps w e w') :
    (∃ (A : Option Addr) (c : Nat), goodT ps = true ∧ 0 < idN k ∧ e = .returned (.tuple #[.agg (bv (buildT k ps).2).toArray, .slice A (buildT k ps).1.length c, .int .i64 0]) ∧ OwnO w.heap.size w' (.slice A (buildT k ps).1.length c) (buildT k ps).1 ∧ Ext w w') ∨
    (∃ q : Nat, ¬ (0 < idN k ∧ goodT ps = true) ∧ q ≠ 0 ∧ q = (if 0 < idN k ∧ 256 < ps.length then 3 else 1) ∧ e = .returned (.tuple #[.agg (bv idNone).toArray, .slice none 0 0, .int .i64 (q : Int)]) ∧ Ext w w') := by
  obtain ⟨h, hx⟩ := h
  rcases h with ⟨h1, h2, v, rfl, ho⟩ | ⟨h1, rfl⟩
  · obtain ⟨A, c, rfl, _, _, _⟩ := ho.form
    exact .inl ⟨A, c, h2, h1, rfl, ho, hx⟩
  · refine .inr ⟨if 0 < idN k ∧ 256 < ps.length then 3 else 1, h1, by split <;> decide, rfl, ?_, hx⟩
    split <;> rfl
theorem upAll_root (k : UInt8) (hk : 0 < idN k) : ∀ (f : Nat) (row : List Kd), row.length ≤ f → row.length ≠ 0 → RowOk k row → (upAll k row).2.length = 33
  | 0, row, h, h0, _ => by omega
  | f + 1, row, h, h0, hr => by
    by_cases h1 : 1 < row.length
    · have hl := upRow_len k row.length row (Nat.le_refl _) (by omega)
      have hls := upRow_less k h1
      rw [upAll_more k h1]
      exact upAll_root k hk f _ (by omega) (by rw [hl.1]; omega) (upRow_ok k hk _ row (Nat.le_refl _) hr)
    · obtain ⟨x, rfl⟩ := List.length_eq_one_iff.1 (show row.length = 1 by omega)
      rw [upAll_one k h1]
      exact (hr.each x (by simp)).2.1
theorem buildT_root {k : UInt8} (hk : 0 < idN k) {ps : List Pr} (h : goodT ps = true) : (buildT k ps).2.length = 33 := by
  have hp : PrsOk ps := prs_ok (by unfold goodT at h; simp only [Bool.and_eq_true] at h; exact h.2)
  unfold buildT
  exact upAll_root k hk _ _ (Nat.le_refl _) (by unfold leafR; rw [List.length_map, chunks_len _ ps (Nat.le_refl _)]; omega) (leafR_ok k hk _ ps (Nat.le_refl _) hp)

set_option maxRecDepth 100000 in
set_option maxHeartbeats 8000000 in
theorem treeCounts_calls (k : UInt8) (ps : List Pr) (A : Option Addr) (n c : Nat) (w : World) (hr : Row w A 2 (ps.map prC)) (hn : ps.length = n) (hnc : n ≤ c) (hl : n ≤ 140737488351232) (hs : ∀ p ∈ ps, p.1.size ≤ 140737488351232 ∧ p.2.size ≤ 140737488351232) (hT : Tab w) :
    Calls Tryd.prog 4 #[.int .u8 k.toNat, .slice A n c] w fun e w' => e = .returned (.bool true) ∧ Ext w w' := by
  have HAL := Lib.hid (talive_calls w hT)
  have HGR := Lib.hid (fun (u : World) (hu : Ext w u) => tgreat_calls ps A n c u (hr.ext hu) hn hl hs)
  have HBD := Lib.hid (fun (u : World) (hu : Ext w u) => build_calls k ps A n c u (hr.ext hu) hn hnc hl hs (hT.ext hu))
  obtain ⟨R, hR⟩ : ∃ R, max ((n + 3) / 4) 1 = R := ⟨_, rfl⟩
  have hlen := buildT_len k ps
  rw [hn, hR] at hlen
  have HLEN := Lib.hid hlen
  clear hr hn hs hT hlen
  go_enter Tryd.func4, Tryd.ntmps4
  go_upto_region 3 with (go_at_call 10; (with_reducible refine HAL.out.mono ?_); rintro e w1 ⟨rfl, hx1⟩)
  go_upto_region 4 with (go_at_call 11; (with_reducible refine (HGR.out w1 hx1).mono ?_); rintro e w2 ⟨⟨gb, rfl, hgb⟩, hx2⟩; rcases gb with _ | _)
  · have hn300 : n ≤ 300 := hgb trivial
    (with_reducible refine Calls.mono (HBD.out w2 (hx1.trans hx2)) ?_)
    rintro e w3 hb
    have hx12 := hx1.trans hx2
    rcases hb.cases with ⟨A3, c3, hgd, hk, rfl, ho, hx3⟩ | ⟨q, hbad, hq0, hq, rfl, hx3⟩
    · have hr33 := buildT_root hk hgd
      obtain ⟨rt, hrt⟩ : ∃ r, (buildT k ps).2 = r := ⟨_, rfl⟩
      obtain ⟨N, hN⟩ : ∃ r, (buildT k ps).1.length = r := ⟨_, rfl⟩
      have hlen := HLEN.out
      rw [hrt] at hr33 ⊢
      rw [hN] at hlen ⊢
      have HRT := Lib.hid hr33
      clear hr33 hrt ho hgd hk hN HAL HGR HBD hb
      go_upto_region 6 with (refine wpList_store_blk rfl 27 (.tmp 5) (.tmp 18) rfl rfl w3.heap.size (bv rt).toArray rfl rfl _ _ (Blk.new w3 _ _) (by rw [List.size_toArray, bv_length, show (rt : List UInt8).length = 33 from HRT.out]; rfl) (by kernel_rfl) (fun v hv => bv_cells _ v (by simpa using hv)) ?_; intro w4 hb5 hg5; have hx34 : Ext w3 w4 := ((Ext.refl _).alloc _).grown_ hg5 (fun j e => by cases e; exact Nat.le_refl _); clear hg5)
      have hx4 := (hx12.trans hx3).trans hx34
      have hNb : N ≤ 1000000 := by
        rw [hlen]
        have h1 := countUp_le R R
        have h2 : R ≤ 300 := by omega
        have h3 : R * (R + 2) ≤ 300 * 302 := Nat.mul_le_mul h2 (by omega)
        omega
      clear hx34 hb5 HLEN
      by_cases hn0 : n = 0
      · have hmx : (1 : Int) > ((n : Int) + 3) / 4 := by omega
        have hR1 : R = 1 := by omega
        clear hR
        go_upto_region 10 with (fail)
        go_loopw [8, 9] (fun u v wr => ∃ (r m f : Nat), u = .int .i64 r ∧ v = .int .i64 m ∧ 1 ≤ r ∧ r ≤ 300 ∧ r ≤ f ∧ Hid (m + countUp f r = N) ∧ m ≤ 1000000 ∧ Ext w wr) (fun u _ _ => (intOf u).toNat)
        case atStart => exact ⟨R, R, R, by rw [hR1]; rfl, by rw [hR1]; rfl, by omega, by omega, Nat.le_refl _, Lib.hid hlen.symm, by omega, hx4⟩
        case round =>
          obtain ⟨r, m, f, rfl, rfl, hr1, hr3, hrf, HC, hmN, hx⟩ := hrel
          by_cases hr : 1 < r
          · have hri : (1 : Int) < (r : Int) := by omega
            obtain ⟨f', rfl⟩ : ∃ f', f = f' + 1 := ⟨f - 1, by omega⟩
            have HC2 : Hid (m + ((r + 2) / 3) + countUp f' ((r + 2) / 3) = N) := Lib.hid (by
              have h := HC.out
              rw [countUp, if_pos hr] at h
              omega)
            obtain ⟨d, hd⟩ : ∃ d, (r + 2) / 3 = d := ⟨_, rfl⟩
            have hd3 : ((r : Int) + 2) / 3 = (d : Int) := by omega
            have hd1 : 1 ≤ d ∧ d ≤ 300 ∧ d ≤ f' ∧ d < r := by omega
            rw [hd] at HC2
            clear hd
            have hmb : m + d ≤ 1000000 := by have := HC2.out; have := hNb; omega
            clear HC
            go_wp2
            go_roundw
            case rel => exact ⟨d, m + d, f', by go_num, by go_num, by omega, by omega, by omega, HC2, hmb, hx⟩
            case measure => simp [intOf] <;> omega
          · have hri : ¬ (1 : Int) < (r : Int) := by omega
            have hmN2 : m = N := by
              have h := HC.out
              have h0 : countUp f r = 0 := by
                cases f with
                | zero => rfl
                | succ f => rw [countUp, if_neg hr]
              omega
            subst hmN2
            go_wp2
            go_ret
            exact ⟨rfl, hx⟩
      · have hmx : ¬ (1 : Int) > ((n : Int) + 3) / 4 := by omega
        have hR1 : ((n : Int) + 3) / 4 = (R : Int) := by omega
        clear hR
        go_upto_region 10 with (fail)
        go_loopw [8, 9] (fun u v wr => ∃ (r m f : Nat), u = .int .i64 r ∧ v = .int .i64 m ∧ 1 ≤ r ∧ r ≤ 300 ∧ r ≤ f ∧ Hid (m + countUp f r = N) ∧ m ≤ 1000000 ∧ Ext w wr) (fun u _ _ => (intOf u).toNat)
        case atStart => exact ⟨R, R, R, by go_num, by go_num, by omega, by omega, Nat.le_refl _, Lib.hid hlen.symm, by omega, hx4⟩
        case round =>
          obtain ⟨r, m, f, rfl, rfl, hr1, hr3, hrf, HC, hmN, hx⟩ := hrel
          by_cases hr : 1 < r
          · have hri : (1 : Int) < (r : Int) := by omega
            obtain ⟨f', rfl⟩ : ∃ f', f = f' + 1 := ⟨f - 1, by omega⟩
            have HC2 : Hid (m + ((r + 2) / 3) + countUp f' ((r + 2) / 3) = N) := Lib.hid (by
              have h := HC.out
              rw [countUp, if_pos hr] at h
              omega)
            obtain ⟨d, hd⟩ : ∃ d, (r + 2) / 3 = d := ⟨_, rfl⟩
            have hd3 : ((r : Int) + 2) / 3 = (d : Int) := by omega
            have hd1 : 1 ≤ d ∧ d ≤ 300 ∧ d ≤ f' ∧ d < r := by omega
            rw [hd] at HC2
            clear hd
            have hmb : m + d ≤ 1000000 := by have := HC2.out; have := hNb; omega
            clear HC
            go_wp2
            go_roundw
            case rel => exact ⟨d, m + d, f', by go_num, by go_num, by omega, by omega, by omega, HC2, hmb, hx⟩
            case measure => simp [intOf] <;> omega
          · have hri : ¬ (1 : Int) < (r : Int) := by omega
            have hmN2 : m = N := by
              have h := HC.out
              have h0 : countUp f r = 0 := by
                cases f with
                | zero => rfl
                | succ f => rw [countUp, if_neg hr]
              omega
            subst hmN2
            go_wp2
            go_ret
            exact ⟨rfl, hx⟩
    · have hq0i : ¬ (q : Int) = 0 := by omega
      clear hq hbad hb
      go_upto_region 6 with (refine wpList_store_blk rfl 27 (.tmp 5) (.tmp 18) rfl rfl w3.heap.size (bv idNone).toArray rfl rfl _ _ (Blk.new w3 _ _) (by rw [List.size_toArray, bv_length, show (idNone : List UInt8).length = 33 from rfl]; rfl) (by kernel_rfl) (fun v hv => bv_cells _ v (by simpa using hv)) ?_; intro w4 hb5 hg5; have hx34 : Ext w3 w4 := ((Ext.refl _).alloc _).grown_ hg5 (fun j e => by cases e; exact Nat.le_refl _); clear hg5)
      go_wp2
      go_ret
      exact ⟨rfl, (hx12.trans hx3).trans hx34⟩
  · go_wp2
    go_ret
    exact ⟨rfl, hx1.trans hx2⟩
end Go.Proofs.YtcnhbodemabbdaaDoor
