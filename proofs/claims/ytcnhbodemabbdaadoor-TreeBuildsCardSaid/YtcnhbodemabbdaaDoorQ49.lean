/- The law's alive. Printed by wip/mktreealive.py. -/
import Derived.Test.YtcnhbodemabbdaaDoorQ47
import Derived.Test.YtcnhbodemabbdaaDoorQ35
import Derived.Test.YtcnhbodemabbdaaDoorQ48
import Derived.Test.YtcnhbodemabbdaaDoorQ42
namespace Go.Proofs.YtcnhbodemabbdaaDoor
open Go.RowKit
set_option linter.unusedVariables false

def ps5 : List Pr := [(⟨#[97]⟩, ⟨#[]⟩), (⟨#[98]⟩, ⟨#[]⟩), (⟨#[99]⟩, ⟨#[]⟩), (⟨#[100]⟩, ⟨#[]⟩), (⟨#[101]⟩, ⟨#[53]⟩)]
def ps5a : List Pr := [(⟨#[97]⟩, ⟨#[]⟩), (⟨#[98]⟩, ⟨#[]⟩), (⟨#[99]⟩, ⟨#[]⟩), (⟨#[100]⟩, ⟨#[]⟩)]
def ps5b : List Pr := [(⟨#[101]⟩, ⟨#[53]⟩)]
def ks5 : List Kd := [(⟨#[97]⟩, idPad (2 :: sha tr1)), (⟨#[101]⟩, idPad (2 :: sha tr2))]
theorem name2 (bs : List UInt8) : idName 2 bs = 2 :: sha bs := by
  unfold idName
  rw [if_neg (by decide), if_pos rfl]
theorem ps5_good : goodT ps5 = true := by kernel_rfl
theorem ps5a_bytes : (leafT ps5a).bytes = tr1 := by kernel_rfl
theorem ps5b_bytes : (leafT ps5b).bytes = tr2 := by kernel_rfl
theorem ks5_bytes : (upT ks5).bytes = tr3 := by
  unfold ks5
  rw [tr1_sha, tr2_sha]
  kernel_rfl
theorem o5a : objT 2 (leafT ps5a) = (idPad (2 :: sha tr1), bstr tr1) := by unfold objT; rw [ps5a_bytes, name2]
theorem o5b : objT 2 (leafT ps5b) = (idPad (2 :: sha tr2), bstr tr2) := by unfold objT; rw [ps5b_bytes, name2]
theorem o5c : objT 2 (upT ks5) = (idPad (2 :: sha tr3), bstr tr3) := by unfold objT; rw [ks5_bytes, name2]
theorem ps5_chunks : chunks ps5 = [ps5a, ps5b] := by
  rw [chunks_gt (by decide)]
  show ps5a :: chunks ps5b = _
  rw [chunks_le (by decide)]
theorem ps5_build : buildT 2 ps5 = ([(idPad (2 :: sha tr1), bstr tr1), (idPad (2 :: sha tr2), bstr tr2), (idPad (2 :: sha tr3), bstr tr3)], idPad (2 :: sha tr3)) := by
  have hr : leafR 2 ps5 = ks5 := by
    unfold leafR
    rw [ps5_chunks, List.map_cons, List.map_cons, List.map_nil, o5a, o5b]
    rfl
  have ho : leafO 2 ps5 = [(idPad (2 :: sha tr1), bstr tr1), (idPad (2 :: sha tr2), bstr tr2)] := by
    unfold leafO
    rw [ps5_chunks, List.map_cons, List.map_cons, List.map_nil, o5a, o5b]
  have hu : upRow 2 ks5 = ([(idPad (2 :: sha tr3), bstr tr3)], [(⟨#[97]⟩, idPad (2 :: sha tr3))]) := by
    rw [upRow_step 2 (by decide)]
    have e1 : ks5.take (grp ks5.length) = ks5 := rfl
    have e2 : ks5.drop (grp ks5.length) = [] := rfl
    rw [e1, e2, upRow_nil, o5c]
    rfl
  unfold buildT
  rw [hr, ho, upAll_more 2 (by decide), hu, upAll_one 2 (by decide)]
  rfl
theorem tr23 : (idPad (2 :: sha tr2) == idPad (2 :: sha tr3)) = false := by
  rw [tr2_sha, tr3_sha]
  decide
theorem at5c : at1 (idPad (idName 2 tr3)) (putAll (buildT 2 ps5).1 []) = some (bstr tr3) := by
  rw [ps5_build, name2]
  show at1 _ (put1 _ _ _) = _
  rw [at1_put, if_pos (beq_self_eq_true _)]
theorem at5b : at1 (idPad (idName 2 tr2)) (putAll (buildT 2 ps5).1 []) = some (bstr tr2) := by
  rw [ps5_build, name2]
  show at1 _ (put1 _ _ (put1 _ _ _)) = _
  rw [at1_put, if_neg (by rw [tr23]; decide), at1_put, if_pos (beq_self_eq_true _)]
theorem dec5c : decT tr3 = some (upT ks5) := by
  rw [← ks5_bytes]
  refine decT_of ?_ ?_
  · unfold ks5
    rw [tr1_sha, tr2_sha]
    kernel_rfl
  · intro x hx
    have h : x ∈ ks5 := hx
    unfold ks5 at h
    rw [tr1_sha, tr2_sha] at h
    rcases List.mem_cons.1 h with rfl | h
    · rfl
    · rcases List.mem_cons.1 h with rfl | h
      · rfl
      · cases h
theorem dec5b : decT tr2 = some (leafT ps5b) := by
  rw [← ps5b_bytes]
  exact decT_of (by kernel_rfl) (fun x hx => by cases hx)
theorem lit5 (w : World) : (Instr.buildSlice 22 5 #[(0, .agg #[.string ⟨#[97]⟩, .string ⟨#[]⟩]), (1, .agg #[.string ⟨#[98]⟩, .string ⟨#[]⟩]), (2, .agg #[.string ⟨#[99]⟩, .string ⟨#[]⟩]), (3, .agg #[.string ⟨#[100]⟩, .string ⟨#[]⟩]), (4, .agg #[.string ⟨#[101]⟩, .string ⟨#[53]⟩])]).run Tryd.prog w = .ok (.slice (some ⟨w.heap.size, 0, none⟩) 5 5) (w.alloc (.cells #[.string ⟨#[97]⟩, .string ⟨#[]⟩, .string ⟨#[98]⟩, .string ⟨#[]⟩, .string ⟨#[99]⟩, .string ⟨#[]⟩, .string ⟨#[100]⟩, .string ⟨#[]⟩, .string ⟨#[101]⟩, .string ⟨#[53]⟩] 65)) := by kernel_rfl
theorem ps5_row (w : World) : Row (w.alloc (.cells #[.string ⟨#[97]⟩, .string ⟨#[]⟩, .string ⟨#[98]⟩, .string ⟨#[]⟩, .string ⟨#[99]⟩, .string ⟨#[]⟩, .string ⟨#[100]⟩, .string ⟨#[]⟩, .string ⟨#[101]⟩, .string ⟨#[53]⟩] 65)) (some ⟨w.heap.size, 0, none⟩) 2 (ps5.map prC) := by
  have h := (Blk.new w 65 #[.string ⟨#[97]⟩, .string ⟨#[]⟩, .string ⟨#[98]⟩, .string ⟨#[]⟩, .string ⟨#[99]⟩, .string ⟨#[]⟩, .string ⟨#[100]⟩, .string ⟨#[]⟩, .string ⟨#[101]⟩, .string ⟨#[53]⟩]).cells
  intro i cs hi
  have hl : cs.length = 2 := by
    obtain ⟨p, _, rfl⟩ := List.mem_map.1 (List.mem_of_getElem? hi)
    rfl
  refine ⟨hl, _, rfl, fun j v hv => ?_⟩
  have hj : j < 2 := by rw [← hl]; exact (List.getElem?_eq_some_iff.1 hv).1
  have hi5 : i < 5 := (List.getElem?_eq_some_iff.1 hi).1
  rw [add_add]
  obtain ⟨x, hx, hc⟩ := h (i * 2 + j) v (by
    rw [List.toList_toArray]
    match i, hi5, hi with
    | 0, _, hi => cases hi; match j, hj, hv with | 0, _, hv => exact hv | 1, _, hv => exact hv
    | 1, _, hi => cases hi; match j, hj, hv with | 0, _, hv => exact hv | 1, _, hv => exact hv
    | 2, _, hi => cases hi; match j, hj, hv with | 0, _, hv => exact hv | 1, _, hv => exact hv
    | 3, _, hi => cases hi; match j, hj, hv with | 0, _, hv => exact hv | 1, _, hv => exact hv
    | 4, _, hi => cases hi; match j, hj, hv with | 0, _, hv => exact hv | 1, _, hv => exact hv)
  cases hx
  exact hc
theorem ps5_small : ∀ p ∈ ps5, p.1.size ≤ 140737488351232 ∧ p.2.size ≤ 140737488351232 := by
  intro p hp
  have h : ps5.all (fun p => decide (p.1.size ≤ 140737488351232) && decide (p.2.size ≤ 140737488351232)) = true := by kernel_rfl
  have := List.all_eq_true.1 h p hp
  simpa using this
theorem ps5_ids : ∀ p ∈ (buildT 2 ps5).1, p.1.length = 33 := by
  intro x hx
  rw [ps5_build] at hx
  rcases List.mem_cons.1 hx with rfl | hx
  · exact idPad_len (by rw [← name2]; exact idName_len _ _)
  · rcases List.mem_cons.1 hx with rfl | hx
    · exact idPad_len (by rw [← name2]; exact idName_len _ _)
    · rcases List.mem_cons.1 hx with rfl | hx
      · exact idPad_len (by rw [← name2]; exact idName_len _ _)
      · cases hx
theorem build5 (A : Option Addr) (c : Nat) (w : World) (hr : Row w A 2 (ps5.map prC)) (hc : 5 ≤ c) (hT : Tab w) :
    Calls Tryd.prog 12 #[.int .u8 2, .slice A 5 c] w fun e w' => ∃ A' c', e = .returned (.tuple #[.agg (bv (idPad (idName 2 tr3))).toArray, .slice A' 3 c', .int .i64 0]) ∧ Row w' A' 34 ((buildT 2 ps5).1.map obC) ∧ Ext w w' := by
  refine (build_calls 2 ps5 A 5 c w hr rfl hc (by decide) ps5_small hT).mono ?_
  rintro e w' ⟨h, hx⟩
  rcases h with ⟨_, _, v, rfl, ho⟩ | ⟨h, _⟩
  · obtain ⟨A', c', rfl, _, _, _⟩ := ho.form
    have h33 : ∀ x ∈ (buildT 2 ps5).1, x.1.length = 33 := by
      intro x hx
      rw [ps5_build] at hx
      rcases List.mem_cons.1 hx with rfl | hx
      · exact idPad_len (by rw [← name2]; exact idName_len _ _)
      · rcases List.mem_cons.1 hx with rfl | hx
        · exact idPad_len (by rw [← name2]; exact idName_len _ _)
        · rcases List.mem_cons.1 hx with rfl | hx
          · exact idPad_len (by rw [← name2]; exact idName_len _ _)
          · cases hx
    have hrow := ho.row h33
    refine ⟨A', c', ?_, hrow, hx⟩
    rw [ps5_build, name2]
    rfl
  · exact absurd ⟨by decide, ps5_good⟩ h

set_option maxRecDepth 100000 in
set_option maxHeartbeats 8000000 in
theorem talive_calls (w : World) (hT : Tab w) : Calls Tryd.prog 10 #[] w fun e w' => e = .returned (.bool true) ∧ Ext w w' := by
  have HT := Lib.hid hT
  clear hT
  go_enter Tryd.func10, Tryd.ntmps10
  obtain ⟨w1, hw1⟩ : ∃ w1, w1 = w.alloc (.cells #[.string ⟨#[97]⟩, .string ⟨#[]⟩, .string ⟨#[98]⟩, .string ⟨#[]⟩, .string ⟨#[99]⟩, .string ⟨#[]⟩, .string ⟨#[100]⟩, .string ⟨#[]⟩, .string ⟨#[101]⟩, .string ⟨#[53]⟩] 65) := ⟨_, rfl⟩
  have hx1 : Ext w w1 := by rw [hw1]; exact (Ext.refl _).alloc _
  have HR1 : Hid (Row w1 (some ⟨w.heap.size, 0, none⟩) 2 (ps5.map prC)) := Lib.hid (by rw [hw1]; exact ps5_row w)
  have hbp : (Instr.build 65 #[(0, .string ⟨#[101]⟩), (1, .string ⟨#[53]⟩)]).run Tryd.prog w = .ok (.agg #[.string ⟨#[101]⟩, .string ⟨#[53]⟩]) w := build_pair w _ _
  go_upto_region 2 with (first
    | (go_at_call 12; rw [← hw1]; (with_reducible refine (build5 _ _ w1 HR1.out (by decide) (HT.out.ext hx1)).mono ?_); rintro e w2 ⟨A2, c2, rfl, hr2, hx2⟩)
    | (refine wpList_store_blk rfl 27 (.tmp 1) (.tmp 16) rfl rfl w2.heap.size (bv (idPad (idName 2 tr3))).toArray rfl rfl _ _ (Blk.new w2 _ _) (by rw [List.size_toArray, bv_length, idPad_len (idName_len _ _)]; rfl) (by kernel_rfl) (fun v hv => bv_cells _ v (by simpa using hv)) ?_; intro w3 hb1 hg1; have hx3 : Ext w2 w3 := ((Ext.refl _).alloc _).grown_ hg1 (fun j e => by cases e; exact Nat.le_refl _)))
  have hx12 := hx1.trans hx2
  have hx13 := hx12.trans hx3
  have HR2 := Lib.hid (hr2.ext hx3)
  obtain ⟨g1, hg1e⟩ : ∃ g, g = w2.heap.size := ⟨_, rfl⟩
  rw [← hg1e] at hb1 ⊢
  have HB1 := Lib.hid hb1
  clear hr2 hb1 hg1 hx3 hx2 hx1 hw1 hbp HR1 hx12 hg1e
  go_upto_region 3 with (go_at_call 31; (with_reducible refine (newPool_calls w3).mono ?_); rintro e w4 ⟨gp, b, rfl, hgp, hbb, hP, hx4⟩)
  have hx14 := hx13.trans hx4
  have h1b : some g1 ≠ some b := fun e => by have := Option.some.inj e; have := HB1.out.lt; omega
  have HB14 := Lib.hid (HB1.out.ext hx4)
  have HR4 := Lib.hid (HR2.out.ext hx4)
  have HP := Lib.hid hP
  have hwb : w.heap.size ≤ b := Nat.le_trans hx13.size hbb
  have HI := Lib.hid ps5_ids
  clear hP hgp hbb hx4 HR2 HB1 hx13
  have HPU := Lib.hid (put_calls gp b [] (buildT 2 ps5).1 A2 3 c2 w4 HP.out HR4.out (by rw [ps5_build]; rfl) (by decide) HI.out)
  go_upto_region 4 with (go_at_call 32; (with_reducible refine HPU.out.mono ?_); rintro e w5 ⟨rfl, hP5, hg5⟩)
  have hx15 := hx14.grown_ hg5 (fun j e => by cases e; exact hwb)
  have HB15 := Lib.hid (HB14.out.grown hg5 h1b)
  have hcx : ∀ (j : Nat) (v : Value), (bv (idPad (idName 2 tr3)))[j]? = some v → w5.cell? ((⟨g1, 0, none⟩ : Addr).add j) = some v := fun j v hv => by
    have h1 := HB15.out.cells
    rw [List.toList_toArray] at h1
    obtain ⟨y, hy, hc⟩ := h1 j v hv
    cases hy
    exact hc
  have HCX := Lib.hid hcx
  have HF := Lib.hid (tfind_two gp b (putAll (buildT 2 ps5).1 []) 2 tr3 tr2 ⟨#[97]⟩ ⟨#[101]⟩ ⟨#[101]⟩ ⟨#[53]⟩ ⟨#[101]⟩ (idPad (2 :: sha tr1)) w5 hP5 (by decide) at5c at5b (by rw [name2]; exact dec5c) dec5b (idPad_len (by rw [← name2]; exact idName_len _ _)) (by kernel_rfl) (by kernel_rfl) (by kernel_rfl) (by decide) (by decide) (HT.out.ext hx15))
  clear hcx hP5 hg5 HP HR4 HB14 hx14
  go_upto_region 5 with (first
    | (refine wpList_load_row_ rfl 27 (.tmp 1) rfl ⟨g1, 0, none⟩ rfl (bv (idPad (idName 2 tr3))) _ HCX.out Tryd.underlying27 rfl (by rw [id_info, bv_length, idPad_len (idName_len _ _)]) ?_)
    | (go_at_call 33; (with_reducible refine HF.out.mono ?_); rintro e w6 ⟨rfl, hx6⟩))
  go_wp2
  go_ret
  exact ⟨rfl, hx15.trans hx6⟩
end Go.Proofs.YtcnhbodemabbdaaDoor
/- TreeCounts: the walk. Printed by wip/mktreecounts.py. -/
namespace Go.Proofs.YtcnhbodemabbdaaDoor
open Go.RowKit
set_option linter.unusedVariables false

theorem buildT_len (k : UInt8) (ps : List Pr) : (buildT k ps).1.length = max ((ps.length + 3) / 4) 1 + countUp (max ((ps.length + 3) / 4) 1) (max ((ps.length + 3) / 4) 1) := by
  have h1 : (leafO k ps).length = max ((ps.length + 3) / 4) 1 := by unfold leafO; rw [List.length_map, chunks_len _ ps (Nat.le_refl _)]
  have h2 : (leafR k ps).length = max ((ps.length + 3) / 4) 1 := by unfold leafR; rw [List.length_map, chunks_len _ ps (Nat.le_refl _)]
  unfold buildT
  rw [List.length_append, h1, upAll_len k _ (leafR k ps) (Nat.le_refl _) (by rw [h2]; omega), h2]
theorem countUp_le : ∀ f r : Nat, countUp f r ≤ f * (r + 2)
  | 0, r => by simp [countUp]
  | f + 1, r => by
    unfold countUp
    split
    · have := countUp_le f ((r + 2) / 3)
      have h2 : f * ((r + 2) / 3 + 2) ≤ f * (r + 2) := Nat.mul_le_mul_left f (by omega)
      rw [Nat.succ_mul]
      omega
    · exact Nat.zero_le _
/-- What Build answers, its kinds told apart. -/
theorem BuildP.cases {k : UInt8} {ps : List Pr} {w w' : World} {e : Ending} (h : BuildP k ps w e w') :
    (∃ (A : Option Addr) (c : Nat), goodT ps = true ∧ 0 < idN k ∧ e = .returned (.tuple #[.agg (bv (buildT k ps).2).toArray, .slice A (buildT k ps).1.length c, .int .i64 0]) ∧ OwnO w.heap.size w' (.slice A (buildT k ps).1.length c) (buildT k ps).1 ∧ Ext w w') ∨
    (∃ q : Nat, ¬ (0 < idN k ∧ goodT ps = true) ∧ q ≠ 0 ∧ q = (if 0 < idN k ∧ 256 < ps.length then 3 else 1) ∧ e = .returned (.tuple #[.agg (bv idNone).toArray, .slice none 0 0, .int .i64 (q : Int)]) ∧ Ext w w') := by
  obtain ⟨h, hx⟩ := h
  rcases h with ⟨h1, h2, v, rfl, ho⟩ | ⟨h1, rfl⟩
  · obtain ⟨A, c, rfl, _, _, _⟩ := ho.form
    exact .inl ⟨A, c, h2, h1, rfl, ho, hx⟩
  · refine .inr ⟨if 0 < idN k ∧ 256 < ps.length then 3 else 1, h1, by split <;> decide, rfl, ?_, hx⟩
    split <;> rfl
theorem upAll_root (k : UInt8) (hk : 0 < idN k) : ∀ (f : Nat) (row : List Kd), row.length ≤ f → row.length ≠ 0 → RowOk k row → (upAll k row).2.length = 33
  | 0, row, h, h0, _ => by omega
  | f + 1, row, h, h0, hr => by
    by_cases h1 : 1 < row.length
    · have hl := upRow_len k row.length row (Nat.le_refl _) (by omega)
      have hls := upRow_less k h1
      rw [upAll_more k h1]
      exact upAll_root k hk f _ (by omega) (by rw [hl.1]; omega) (upRow_ok k hk _ row (Nat.le_refl _) hr)
    · obtain ⟨x, rfl⟩ := List.length_eq_one_iff.1 (show row.length = 1 by omega)
      rw [upAll_one k h1]
      exact (hr.each x (by simp)).2.1
theorem buildT_root {k : UInt8} (hk : 0 < idN k) {ps : List Pr} (h : goodT ps = true) : (buildT k ps).2.length = 33 := by
  have hp : PrsOk ps := prs_ok (by unfold goodT at h; simp only [Bool.and_eq_true] at h; exact h.2)
  unfold buildT
  exact upAll_root k hk _ _ (Nat.le_refl _) (by unfold leafR; rw [List.length_map, chunks_len _ ps (Nat.le_refl _)]; omega) (leafR_ok k hk _ ps (Nat.le_refl _) hp)

set_option maxRecDepth 100000 in
set_option maxHeartbeats 8000000 in
theorem treeCounts_calls (k : UInt8) (ps : List Pr) (A : Option Addr) (n c : Nat) (w : World) (hr : Row w A 2 (ps.map prC)) (hn : ps.length = n) (hnc : n ≤ c) (hl : n ≤ 140737488351232) (hs : ∀ p ∈ ps, p.1.size ≤ 140737488351232 ∧ p.2.size ≤ 140737488351232) (hT : Tab w) :
    Calls Tryd.prog 4 #[.int .u8 k.toNat, .slice A n c] w fun e w' => e = .returned (.bool true) ∧ Ext w w' := by
  have HAL := Lib.hid (talive_calls w hT)
  have HGR := Lib.hid (fun (u : World) (hu : Ext w u) => tgreat_calls ps A n c u (hr.ext hu) hn hl hs)
  have HBD := Lib.hid (fun (u : World) (hu : Ext w u) => build_calls k ps A n c u (hr.ext hu) hn hnc hl hs (hT.ext hu))
  obtain ⟨R, hR⟩ : ∃ R, max ((n + 3) / 4) 1 = R := ⟨_, rfl⟩
  have hlen := buildT_len k ps
  rw [hn, hR] at hlen
  have HLEN := Lib.hid hlen
  clear hr hn hs hT hlen
  go_enter Tryd.func4, Tryd.ntmps4
  go_upto_region 3 with (go_at_call 10; (with_reducible refine HAL.out.mono ?_); rintro e w1 ⟨rfl, hx1⟩)
  go_upto_region 4 with (go_at_call 11; (with_reducible refine (HGR.out w1 hx1).mono ?_); rintro e w2 ⟨⟨gb, rfl, hgb⟩, hx2⟩; rcases gb with _ | _)
  · have hn300 : n ≤ 300 := hgb trivial
    (with_reducible refine Calls.mono (HBD.out w2 (hx1.trans hx2)) ?_)
    rintro e w3 hb
    have hx12 := hx1.trans hx2
    rcases hb.cases with ⟨A3, c3, hgd, hk, rfl, ho, hx3⟩ | ⟨q, hbad, hq0, hq, rfl, hx3⟩
    · have hr33 := buildT_root hk hgd
      obtain ⟨rt, hrt⟩ : ∃ r, (buildT k ps).2 = r := ⟨_, rfl⟩
      obtain ⟨N, hN⟩ : ∃ r, (buildT k ps).1.length = r := ⟨_, rfl⟩
      have hlen := HLEN.out
      rw [hrt] at hr33 ⊢
      rw [hN] at hlen ⊢
      have HRT := Lib.hid hr33
      clear hr33 hrt ho hgd hk hN HAL HGR HBD hb
      go_upto_region 6 with (refine wpList_store_blk rfl 27 (.tmp 5) (.tmp 18) rfl rfl w3.heap.size (bv rt).toArray rfl rfl _ _ (Blk.new w3 _ _) (by rw [List.size_toArray, bv_length, show (rt : List UInt8).length = 33 from HRT.out]; rfl) (by kernel_rfl) (fun v hv => bv_cells _ v (by simpa using hv)) ?_; intro w4 hb5 hg5; have hx34 : Ext w3 w4 := ((Ext.refl _).alloc _).grown_ hg5 (fun j e => by cases e; exact Nat.le_refl _); clear hg5)
      have hx4 := (hx12.trans hx3).trans hx34
      have hNb : N ≤ 1000000 := by
        rw [hlen]
        have h1 := countUp_le R R
        have h2 : R ≤ 300 := by omega
        have h3 : R * (R + 2) ≤ 300 * 302 := Nat.mul_le_mul h2 (by omega)
        omega
      clear hx34 hb5 HLEN
      by_cases hn0 : n = 0
      · have hmx : (1 : Int) > ((n : Int) + 3) / 4 := by omega
        have hR1 : R = 1 := by omega
        clear hR
        go_upto_region 10 with (fail)
        go_loopw [8, 9] (fun u v wr => ∃ (r m f : Nat), u = .int .i64 r ∧ v = .int .i64 m ∧ 1 ≤ r ∧ r ≤ 300 ∧ r ≤ f ∧ Hid (m + countUp f r = N) ∧ m ≤ 1000000 ∧ Ext w wr) (fun u _ _ => (intOf u).toNat)
        case atStart => exact ⟨R, R, R, by rw [hR1]; rfl, by rw [hR1]; rfl, by omega, by omega, Nat.le_refl _, Lib.hid hlen.symm, by omega, hx4⟩
        case round =>
          obtain ⟨r, m, f, rfl, rfl, hr1, hr3, hrf, HC, hmN, hx⟩ := hrel
          by_cases hr : 1 < r
          · have hri : (1 : Int) < (r : Int) := by omega
            obtain ⟨f', rfl⟩ : ∃ f', f = f' + 1 := ⟨f - 1, by omega⟩
            have HC2 : Hid (m + ((r + 2) / 3) + countUp f' ((r + 2) / 3) = N) := Lib.hid (by
              have h := HC.out
              rw [countUp, if_pos hr] at h
              omega)
            obtain ⟨d, hd⟩ : ∃ d, (r + 2) / 3 = d := ⟨_, rfl⟩
            have hd3 : ((r : Int) + 2) / 3 = (d : Int) := by omega
            have hd1 : 1 ≤ d ∧ d ≤ 300 ∧ d ≤ f' ∧ d < r := by omega
            rw [hd] at HC2
            clear hd
            have hmb : m + d ≤ 1000000 := by have := HC2.out; have := hNb; omega
            clear HC
            go_wp2
            go_roundw
            case rel => exact ⟨d, m + d, f', by go_num, by go_num, by omega, by omega, by omega, HC2, hmb, hx⟩
            case measure => simp [intOf] <;> omega
          · have hri : ¬ (1 : Int) < (r : Int) := by omega
            have hmN2 : m = N := by
              have h := HC.out
              have h0 : countUp f r = 0 := by
                cases f with
                | zero => rfl
                | succ f => rw [countUp, if_neg hr]
              omega
            subst hmN2
            go_wp2
            go_ret
            exact ⟨rfl, hx⟩
      · have hmx : ¬ (1 : Int) > ((n : Int) + 3) / 4 := by omega
        have hR1 : ((n : Int) + 3) / 4 = (R : Int) := by omega
        clear hR
        go_upto_region 10 with (fail)
        go_loopw [8, 9] (fun u v wr => ∃ (r m f : Nat), u = .int .i64 r ∧ v = .int .i64 m ∧ 1 ≤ r ∧ r ≤ 300 ∧ r ≤ f ∧ Hid (m + countUp f r = N) ∧ m ≤ 1000000 ∧ Ext w wr) (fun u _ _ => (intOf u).toNat)
        case atStart => exact ⟨R, R, R, by go_num, by go_num, by omega, by omega, Nat.le_refl _, Lib.hid hlen.symm, by omega, hx4⟩
        case round =>
          obtain ⟨r, m, f, rfl, rfl, hr1, hr3, hrf, HC, hmN, hx⟩ := hrel
          by_cases hr : 1 < r
          · have hri : (1 : Int) < (r : Int) := by omega
            obtain ⟨f', rfl⟩ : ∃ f', f = f' + 1 := ⟨f - 1, by omega⟩
            have HC2 : Hid (m + ((r + 2) / 3) + countUp f' ((r + 2) / 3) = N) := Lib.hid (by
              have h := HC.out
              rw [countUp, if_pos hr] at h
              omega)
            obtain ⟨d, hd⟩ : ∃ d, (r + 2) / 3 = d := ⟨_, rfl⟩
            have hd3 : ((r : Int) + 2) / 3 = (d : Int) := by omega
            have hd1 : 1 ≤ d ∧ d ≤ 300 ∧ d ≤ f' ∧ d < r := by omega
            rw [hd] at HC2
            clear hd
            have hmb : m + d ≤ 1000000 := by have := HC2.out; have := hNb; omega
            clear HC
            go_wp2
            go_roundw
            case rel => exact ⟨d, m + d, f', by go_num, by go_num, by omega, by omega, by omega, HC2, hmb, hx⟩
            case measure => simp [intOf] <;> omega
          · have hri : ¬ (1 : Int) < (r : Int) := by omega
            have hmN2 : m = N := by
              have h := HC.out
              have h0 : countUp f r = 0 := by
                cases f with
                | zero => rfl
                | succ f => rw [countUp, if_neg hr]
              omega
            subst hmN2
            go_wp2
            go_ret
            exact ⟨rfl, hx⟩
    · have hq0i : ¬ (q : Int) = 0 := by omega
      clear hq hbad hb
      go_upto_region 6 with (refine wpList_store_blk rfl 27 (.tmp 5) (.tmp 18) rfl rfl w3.heap.size (bv idNone).toArray rfl rfl _ _ (Blk.new w3 _ _) (by rw [List.size_toArray, bv_length, show (idNone : List UInt8).length = 33 from rfl]; rfl) (by kernel_rfl) (fun v hv => bv_cells _ v (by simpa using hv)) ?_; intro w4 hb5 hg5; have hx34 : Ext w3 w4 := ((Ext.refl _).alloc _).grown_ hg5 (fun j e => by cases e; exact Nat.le_refl _); clear hg5)
      go_wp2
      go_ret
      exact ⟨rfl, (hx12.trans hx3).trans hx34⟩
  · go_wp2
    go_ret
    exact ⟨rfl, hx1.trans hx2⟩
end Go.Proofs.YtcnhbodemabbdaaDoor
/- TreeBuilds: Good and Build answer what the document says, of all pairs and hashes. Printed by wip/mktreebuilds.py. -/
namespace Go.Proofs.YtcnhbodemabbdaaDoor
open Go.RowKit
set_option linter.unusedVariables false

theorem upRow_last (k : UInt8) : ∀ (n : Nat) (row : List Kd), row.length ≤ n → row.length ≠ 0 → ((upRow k row).1.getLast?).map (·.1) = ((upRow k row).2.getLast?).map (·.2) ∧ (upRow k row).2.length ≠ 0
  | 0, row, h, h0 => by omega
  | n + 1, row, h, h0 => by
    rw [upRow_step k h0]
    have hg := grp_pos (n := row.length) (by omega)
    refine ⟨?_, by simp⟩
    by_cases hd : (row.drop (grp row.length)).length = 0
    · have hd' : row.drop (grp row.length) = [] := List.eq_nil_of_length_eq_zero hd
      rw [hd', upRow_nil]
      rfl
    · obtain ⟨ih, ih2⟩ := upRow_last k n (row.drop (grp row.length)) (by rw [List.length_drop]; omega) hd
      generalize (upRow k (row.drop (grp row.length))).1 = a at ih ⊢
      generalize hb : (upRow k (row.drop (grp row.length))).2 = b at ih ih2 ⊢
      cases b with
      | nil => exact absurd rfl ih2
      | cons b0 bt =>
        cases a with
        | nil => rw [List.getLast?_nil, List.getLast?_cons] at ih; cases ih
        | cons a0 at_ =>
          rw [List.getLast?_cons_cons, List.getLast?_cons_cons]
          exact ih
theorem last_append {α : Type} (a : List α) {b : List α} (h : b.length ≠ 0) : (a ++ b).getLast? = b.getLast? := by
  cases b with
  | nil => exact absurd rfl h
  | cons x t =>
    rw [List.getLast?_append, List.getLast?_cons]
    rfl
theorem upAll_last (k : UInt8) : ∀ (n : Nat) (row : List Kd), row.length ≤ n → row.length ≠ 0 → ∀ pre : List Ent2, (pre.getLast?).map (·.1) = (row.getLast?).map (·.2) → ((pre ++ (upAll k row).1).getLast?).map (·.1) = some (upAll k row).2
  | 0, row, h, h0, _, _ => by omega
  | n + 1, row, h, h0, pre, hp => by
    by_cases h1 : 1 < row.length
    · have hl := upRow_last k _ row (Nat.le_refl _) h0
      have hls := upRow_less k h1
      rw [upAll_more k h1, ← List.append_assoc]
      refine upAll_last k n _ (by omega) hl.2 _ ?_
      rw [last_append _ (by rw [(upRow_len k _ row (Nat.le_refl _) (by omega)).2, ← (upRow_len k _ row (Nat.le_refl _) (by omega)).1]; exact hl.2)]
      exact hl.1
    · obtain ⟨x, rfl⟩ := List.length_eq_one_iff.1 (show row.length = 1 by omega)
      rw [upAll_one k h1, List.append_nil, hp]
      rfl
theorem buildT_last (k : UInt8) (ps : List Pr) : ((buildT k ps).1.getLast?).map (·.1) = some (buildT k ps).2 := by
  unfold buildT
  refine upAll_last k _ _ (Nat.le_refl _) (by unfold leafR; rw [List.length_map, chunks_len _ ps (Nat.le_refl _)]; omega) _ ?_
  unfold leafO leafR
  rw [List.getLast?_map, List.getLast?_map, Option.map_map, Option.map_map]
  rfl
theorem last_at {α β : Type} {l : List α} {f : α → β} {y : β} {N : Nat} (h : (l.getLast?).map f = some y) (hN : l.length = N) : 0 < N ∧ ∃ x, l[N - 1]? = some x ∧ f x = y := by
  rw [List.getLast?_eq_getElem?, hN] at h
  cases hx : l[N - 1]? with
  | none => rw [hx] at h; cases h
  | some x =>
    rw [hx] at h
    have := (List.getElem?_eq_some_iff.1 hx).1
    exact ⟨by omega, x, rfl, by simpa using h⟩
theorem goodT_long {ps : List Pr} (h : 256 < ps.length) : goodT ps = false := by
  unfold goodT
  rw [decide_eq_false (by omega), Bool.false_and]
theorem f_obj0 (w : World) (p : Addr) : (Instr.fieldAt 35 (.pointer (some p)) 0).run Tryd.prog w = .ok (.pointer (some p)) w := by go_simp
theorem upRow_ids (k : UInt8) (hk : 0 < idN k) : ∀ (n : Nat) (row : List Kd), row.length ≤ n → ∀ x ∈ (upRow k row).1, x.1.length = 33
  | 0, row, h, x, hx => by
    have : row = [] := List.eq_nil_of_length_eq_zero (by omega)
    subst this
    rw [upRow_nil] at hx
    cases hx
  | n + 1, row, h, x, hx => by
    by_cases h0 : row.length = 0
    · have : row = [] := List.eq_nil_of_length_eq_zero h0
      subst this
      rw [upRow_nil] at hx
      cases hx
    · rw [upRow_step k h0] at hx
      have hg := grp_pos (n := row.length) (by omega)
      rcases List.mem_cons.1 hx with rfl | hx
      · exact (obj_id k hk _).1
      · exact upRow_ids k hk n (row.drop (grp row.length)) (by rw [List.length_drop]; omega) x hx
theorem upAll_ids (k : UInt8) (hk : 0 < idN k) : ∀ (n : Nat) (row : List Kd), row.length ≤ n → ∀ x ∈ (upAll k row).1, x.1.length = 33
  | 0, row, h, x, hx => by
    rw [upAll_one k (by omega)] at hx
    cases hx
  | n + 1, row, h, x, hx => by
    by_cases h1 : 1 < row.length
    · rw [upAll_more k h1] at hx
      have hls := upRow_less k h1
      rcases List.mem_append.1 hx with hx | hx
      · exact upRow_ids k hk _ row (Nat.le_refl _) x hx
      · exact upAll_ids k hk n _ (by omega) x hx
    · rw [upAll_one k h1] at hx
      cases hx
theorem buildT_ids {k : UInt8} (hk : 0 < idN k) {ps : List Pr} (h : goodT ps = true) : ∀ x ∈ (buildT k ps).1, x.1.length = 33 := by
  intro x hx
  unfold buildT at hx
  rcases List.mem_append.1 hx with hx | hx
  · unfold leafO at hx
    obtain ⟨c, _, rfl⟩ := List.mem_map.1 hx
    exact (obj_id k hk _).1
  · exact upAll_ids k hk _ _ (Nat.le_refl _) x hx
theorem run_eql_ob {w : World} (b : Bool) (x y : List UInt8) (hz : (Op.equalIn 10000 27 (.agg (bv x).toArray) (.agg (bv y).toArray)).run Tryd.prog w = .ok b w) {o : Oper} {a : Act} (s1 s2 : Nat) (ho : o.op = .binOp .eql 27 (.tmp s1) (.tmp s2) 27) (h1 : a.eval (.tmp s1) = .agg (bv x).toArray) (h2 : a.eval (.tmp s2) = .agg (bv y).toArray) : (execOp a.eval o).run Tryd.prog w = .ok (.value (.bool b)) w := run_eq_id s1 s2 _ _ b ho h1 h2 hz
theorem k_cases (k : UInt8) : (k = 1 ∨ k = 2) ∨ idN k = 0 := by
  by_cases h1 : k = 1
  · exact .inl (.inl h1)
  · by_cases h2 : k = 2
    · exact .inl (.inr h2)
    · exact .inr (idN_other h1 h2)

set_option maxRecDepth 100000 in
set_option maxHeartbeats 16000000 in
theorem treeBuilds_calls (k : UInt8) (ps : List Pr) (A : Option Addr) (n c : Nat) (w : World) (hr : Row w A 2 (ps.map prC)) (hn : ps.length = n) (hnc : n ≤ c) (hl : n ≤ 140737488351232) (hs : ∀ p ∈ ps, p.1.size ≤ 140737488351232 ∧ p.2.size ≤ 140737488351232) (hT : Tab w) :
    Calls Tryd.prog 3 #[.int .u8 k.toNat, .slice A n c] w fun e w' => e = .returned (.bool true) ∧ Ext w w' := by
  have HAL := Lib.hid (talive_calls w hT)
  have HGR := Lib.hid (fun (u : World) (hu : Ext w u) => tgreat_calls ps A n c u (hr.ext hu) hn hl hs)
  have HBD := Lib.hid (fun (u : World) (hu : Ext w u) => build_calls k ps A n c u (hr.ext hu) hn hnc hl hs (hT.ext hu))
  have HG1 := Lib.hid (fun (u : World) (hu : Ext w u) => rtgood_calls ps A n c u (hr.ext hu) hn hl hs)
  have HG2 := Lib.hid (fun (u : World) (hu : Ext w u) => tgood_calls ps A n c u (hr.ext hu) hn hl hs)
  have HRB := Lib.hid (fun (u : World) (hu : Ext w u) (hk : 0 < idN k) (hg : goodT ps = true) => rbuild_calls k ps A n c u (hr.ext hu) hn hnc hk hg (hT.ext hu))
  have HLONG : Hid (256 < n → goodT ps = false) := Lib.hid (fun h => goodT_long (by omega))
  have HN := Lib.hid hn
  clear hr hn hs hT
  go_enter Tryd.func3, Tryd.ntmps3
  go_upto_region 3 with (go_at_call 10; (with_reducible refine HAL.out.mono ?_); rintro e w1 ⟨rfl, hx1⟩)
  go_upto_region 4 with (go_at_call 11; (with_reducible refine (HGR.out w1 hx1).mono ?_); rintro e w2 ⟨⟨gb, rfl, hgb⟩, hx2⟩; rcases gb with _ | _)
  · have hn300 : n ≤ 300 := hgb trivial
    (with_reducible refine Calls.mono (HBD.out w2 (hx1.trans hx2)) ?_)
    rintro e w3 hb
    have hx12 := hx1.trans hx2
    rcases hb.cases with ⟨A3, c3, hgd, hk, rfl, ho, hx3⟩ | ⟨q, hbad, hq0, hq, rfl, hx3⟩
    · have hr33 := buildT_root hk hgd
      obtain ⟨rt, hrt⟩ : ∃ r, (buildT k ps).2 = r := ⟨_, rfl⟩
      obtain ⟨os, hos⟩ : ∃ r, (buildT k ps).1 = r := ⟨_, rfl⟩
      obtain ⟨N, hN⟩ : ∃ r, os.length = r := ⟨_, rfl⟩
      have hlast := buildT_last k ps
      have hlen := buildT_len k ps
      have hids : ∀ x ∈ os, x.1.length = 33 := fun x hx => buildT_ids hk hgd x (by rw [hos]; exact hx)
      rw [hos, hrt] at hlast
      rw [hos, hN, HN.out] at hlen
      obtain ⟨hN0, ol, hol, hol2⟩ := last_at hlast hN
      rw [hrt] at hr33 ⊢
      rw [hos] at ho
      rw [hos, hN]
      have hNb : N ≤ 1000000 := by
        rw [hlen]
        have h1 := countUp_le (max ((n + 3) / 4) 1) (max ((n + 3) / 4) 1)
        have h2 : max ((n + 3) / 4) 1 ≤ 300 := by omega
        have h3 : max ((n + 3) / 4) 1 * (max ((n + 3) / 4) 1 + 2) ≤ 300 * 302 := Nat.mul_le_mul h2 (by omega)
        omega
      have HRT : Hid (rt.length = 33) := Lib.hid hr33
      have HROW := Lib.hid (OwnO.row ho hids)
      have HIDS := Lib.hid hids
      have HNN := Lib.hid hN
      have HOL := Lib.hid hol
      have HOL2 := Lib.hid hol2
      have HOS := Lib.hid hos
      have HK := Lib.hid hk
      have HGD := Lib.hid hgd
      rw [hgd] at HG1 HG2
      have hn256 : ¬ (256 : Int) < (n : Int) := fun h => by have := HLONG.out (by omega); rw [hgd] at this; cases this
      have hkc : k = 1 ∨ k = 2 := (k_cases k).resolve_right (by omega)
      clear hr33 hrt ho hgd hk hN HAL HGR HBD hb hlast hlen hids hol hol2 hos HLONG
      go_upto_region 6 with (refine wpList_store_blk rfl 27 (.tmp 5) (.tmp 18) rfl rfl w3.heap.size (bv rt).toArray rfl rfl _ _ (Blk.new w3 _ _) (by rw [List.size_toArray, bv_length, HRT.out]; rfl) (by kernel_rfl) (fun v hv => bv_cells _ v (by simpa using hv)) ?_; intro w4 hb5 hg5; have hx34 : Ext w3 w4 := ((Ext.refl _).alloc _).grown_ hg5 (fun j e => by cases e; exact Nat.le_refl _); clear hg5)
      obtain ⟨g5, hg5e⟩ : ∃ g, g = w3.heap.size := ⟨_, rfl⟩
      rw [← hg5e] at hb5 ⊢
      have hx4 := (hx12.trans hx3).trans hx34
      replace HROW := Lib.hid (HROW.out.ext hx34)
      have HB5 := Lib.hid hb5
      clear hb5 hg5e hx34 hx3 hx12
      go_upto_region 9 with (first
        | (go_at_call 13; (with_reducible refine Calls.mono (HG1.out w4 hx4) ?_); rintro e w5 ⟨rfl, hx5⟩; have hx5w := hx4.trans hx5)
        | (go_at_call 14; (with_reducible refine Calls.mono (HG2.out w5 hx5w) ?_); rintro e w6 ⟨rfl, hx6⟩))
      have hx46 := hx5.trans hx6
      have hx6w := hx5w.trans hx6
      replace HROW := Lib.hid (HROW.out.ext hx46)
      replace HB5 := Lib.hid (HB5.out.ext hx46)
      clear hx5 hx6 hx5w hx46 hx4 HG1 HG2
      rcases hkc with rfl | rfl
      · simp only [show ((1 : UInt8).toNat : Int) = 1 from rfl] at HRB ⊢
        go_upto_region 16 with (go_at_call 15; (with_reducible refine Calls.mono (HRB.out w6 hx6w HK.out HGD.out) ?_); rintro e w7 ⟨⟨v7, rfl, ho7⟩, hx7⟩)
        rw [HOS.out] at ho7
        obtain ⟨A7, c7, rfl, _, _, _⟩ := OwnO.form ho7
        rw [HNN.out] at ho7 ⊢
        have HROW7 := Lib.hid (OwnO.row ho7 HIDS.out)
        have HROW3 := Lib.hid (HROW.out.ext hx7)
        have HB57 := Lib.hid (HB5.out.ext hx7)
        have hx7w := hx6w.trans hx7
        obtain ⟨ax, hax, hac⟩ := ob_row HROW7.out (i := N - 1) (by rw [HNN.out]; omega)
        subst hax
        have HAC := Lib.hid hac
        have HOLe : Hid (os[N - 1]'(by rw [HNN.out]; omega) = ol) := Lib.hid (by have := HOL.out; rw [List.getElem?_eq_getElem (by rw [HNN.out]; omega)] at this; exact Option.some.inj this)
        have HEQ : Hid (∀ u : World, (Op.equalIn 10000 27 (.agg (bv rt).toArray) (.agg (bv rt).toArray)).run Tryd.prog u = .ok true u) := Lib.hid (fun u => by have := id_equal rt rt HRT.out HRT.out u; rwa [show (rt == rt) = true from by simp] at this)
        have hsub : (N : Int) - 1 = ((N - 1 : Nat) : Int) := by omega
        have hN1 : N - 1 < N := by omega
        have hwrap : IntKind.i64.wrap ((N - 1 : Nat) : Int) = ((N - 1 : Nat) : Int) := by simp [IntKind.wrap, IntKind.bits, IntKind.signed]; omega
        clear ho7 hx7 hac HRB hx6w HROW HB5
        refine wp_region_ops (FInv [77, 78, 79, 80, 81, 82, 83, 84, 85, 86, 87, 88, 89, 90, 91, 92, 93, 94, 4] _ w7.drew [⟨0, none, 77, .val (.int .i64 0)⟩, ⟨1, none, 78, .val (.bool true)⟩, ⟨2, none, 79, .val (.bool true)⟩, ⟨3, none, 80, .val (.slice A3 N c3)⟩, ⟨4, none, 81, .val (.slice (some ax) N c7)⟩, ⟨5, none, 82, .val (.bool true)⟩, ⟨6, none, 83, .val (.bool true)⟩, ⟨7, none, 84, .val (.bool true)⟩, ⟨8, none, 85, .val (.agg (bv rt).toArray)⟩, ⟨9, none, 86, .val (.slice (some ax) N c7)⟩, ⟨10, none, 87, .val (.slice (some ax) N c7)⟩, ⟨11, none, 88, .val (.int .i64 (N : Int))⟩, ⟨12, none, 89, .val (.int .i64 ((N - 1 : Nat) : Int))⟩, ⟨13, none, 90, .val (.pointer (some (ax.add ((N - 1) * 34))))⟩, ⟨14, none, 91, .val (.pointer (some (ax.add ((N - 1) * 34))))⟩, ⟨15, none, 92, .val (.agg (bv rt).toArray)⟩, ⟨16, none, 93, .val (.bool true)⟩, ⟨17, none, 94, .val (.bool true)⟩, ⟨18, none, 4, .val (.bool true)⟩]) (by kernel_rfl) (by kernel_rfl) FInv.start ?_ ?_
        · refine ⟨?o0, ?o1, ?o2, ?o3, ?o4, ?o5, ?o6, ?o7, ?o8, ?o9, ?o10, ?o11, ?o12, ?o13, ?o14, ?o15, ?o16, ?o17, ?o18, trivial⟩
          case o0 =>
            intro f a u h hfi hp hq
            have q7 : a.tmps[7]?.getD undef = .int .i64 0 := h.agree.att (by decide)
            exact h.yieldG rfl (wanted_none rfl) 77 rfl (by change 77 < 95; decide) rfl _ rfl (by go_simp)
          case o1 =>
            intro f a u h hfi hp hq
            have q77 := h.att 0 rfl (pre_of hp 0 rfl)
            exact h.yieldG rfl (wanted_none rfl) 78 rfl (by change 78 < 95; decide) rfl _ rfl (by go_simp)
          case o2 =>
            intro f a u h hfi hp hq
            have q78 := h.att 1 rfl (pre_of hp 1 rfl)
            exact h.yieldG rfl (wanted_none rfl) 79 rfl (by change 79 < 95; decide) rfl _ rfl (by go_simp)
          case o3 =>
            intro f a u h hfi hp hq
            have q6 : a.tmps[6]?.getD undef = .slice A3 N c3 := h.agree.att (by decide)
            exact h.yieldG rfl (wanted_yes (g := 2) (d' := 79) rfl rfl (h.at_ 2 rfl (pre_of hp 2 rfl))) 80 rfl (by change 80 < 95; decide) rfl _ rfl (by go_simp)
          case o4 =>
            intro f a u h hfi hp hq
            have q9 : a.tmps[9]?.getD undef = .slice (some ax) N c7 := h.agree.att (by decide)
            exact h.yieldG rfl (wanted_yes (g := 2) (d' := 79) rfl rfl (h.at_ 2 rfl (pre_of hp 2 rfl))) 81 rfl (by change 81 < 95; decide) rfl _ rfl (by go_simp)
          case o5 =>
            intro f a u h hfi hp hq
            have hyu : Ext w7 u := ((Ext.refl w7).drew).trans h.ext
            exact h.callG rfl (wanted_yes (g := 2) (d' := 79) rfl rfl (h.at_ 2 rfl (pre_of hp 2 rfl))) 82 rfl (by change 82 < 95; decide) rfl _ rfl 16 #[.tmp 80, .tmp 81] #[28, 28] _ rfl (by kernel_rfl) (by rw [arr2, h.at_ 3 rfl (pre_of hp 3 rfl), h.at_ 4 rfl (pre_of hp 4 rfl)] <;> rfl) (rsameO_calls os A3 (some ax) N c3 c7 u HNN.out (HROW3.out.ext hyu) (HROW7.out.ext hyu) (by omega) HIDS.out)
          case o6 =>
            intro f a u h hfi hp hq
            have q79 := h.att 2 rfl (pre_of hp 2 rfl)
            have q82 := h.att 5 rfl (pre_of hp 5 rfl)
            exact h.yieldG rfl (wanted_none rfl) 83 rfl (by change 83 < 95; decide) rfl _ rfl (by go_simp)
          case o7 =>
            intro f a u h hfi hp hq
            have q83 := h.att 6 rfl (pre_of hp 6 rfl)
            exact h.yieldG rfl (wanted_none rfl) 84 rfl (by change 84 < 95; decide) rfl _ rfl (by go_simp)
          case o8 =>
            intro f a u h hfi hp hq
            have hyu : Ext w7 u := ((Ext.refl w7).drew).trans h.ext
            exact h.yieldG rfl (wanted_yes (g := 7) (d' := 84) rfl rfl (h.at_ 7 rfl (pre_of hp 7 rfl))) 85 rfl (by change 85 < 95; decide) rfl _ rfl (run_of_sem rfl (by rw [(show a.eval (.tmp 5) = .pointer (some ⟨g5, 0, none⟩) from h.agree.eval (by decide))]; exact run_load_blk (HB57.out.ext hyu) Tryd.underlying27 rfl (by rw [List.size_toArray, bv_length, HRT.out]; kernel_rfl)))
          case o9 =>
            intro f a u h hfi hp hq
            have q9 : a.tmps[9]?.getD undef = .slice (some ax) N c7 := h.agree.att (by decide)
            exact h.yieldG rfl (wanted_yes (g := 7) (d' := 84) rfl rfl (h.at_ 7 rfl (pre_of hp 7 rfl))) 86 rfl (by change 86 < 95; decide) rfl _ rfl (by go_simp)
          case o10 =>
            intro f a u h hfi hp hq
            have q9 : a.tmps[9]?.getD undef = .slice (some ax) N c7 := h.agree.att (by decide)
            exact h.yieldG rfl (wanted_yes (g := 7) (d' := 84) rfl rfl (h.at_ 7 rfl (pre_of hp 7 rfl))) 87 rfl (by change 87 < 95; decide) rfl _ rfl (by go_simp)
          case o11 =>
            intro f a u h hfi hp hq
            have q87 := h.att 10 rfl (pre_of hp 10 rfl)
            exact h.yieldG rfl (wanted_yes (g := 7) (d' := 84) rfl rfl (h.at_ 7 rfl (pre_of hp 7 rfl))) 88 rfl (by change 88 < 95; decide) rfl _ rfl (by go_simp)
          case o12 =>
            intro f a u h hfi hp hq
            have hs := hsub
            have hwr := hwrap
            have q88 := h.att 11 rfl (pre_of hp 11 rfl)
            exact h.yieldG rfl (wanted_yes (g := 7) (d' := 84) rfl rfl (h.at_ 7 rfl (pre_of hp 7 rfl))) 89 rfl (by change 89 < 95; decide) rfl _ rfl (by go_simp)
          case o13 =>
            intro f a u h hfi hp hq
            exact h.yieldG rfl (wanted_yes (g := 7) (d' := 84) rfl rfl (h.at_ 7 rfl (pre_of hp 7 rfl))) 90 rfl (by change 90 < 95; decide) rfl _ rfl (run_of_sem rfl (by rw [h.at_ 9 rfl (pre_of hp 9 rfl), h.at_ 12 rfl (pre_of hp 12 rfl)]; exact ix_obj rfl hN1))
          case o14 =>
            intro f a u h hfi hp hq
            exact h.yieldG rfl (wanted_yes (g := 7) (d' := 84) rfl rfl (h.at_ 7 rfl (pre_of hp 7 rfl))) 91 rfl (by change 91 < 95; decide) rfl _ rfl (run_of_sem rfl (by rw [h.at_ 13 rfl (pre_of hp 13 rfl)]; exact f_obj0 _ _))
          case o15 =>
            intro f a u h hfi hp hq
            have hyu : Ext w7 u := ((Ext.refl w7).drew).trans h.ext
            exact h.yieldG rfl (wanted_yes (g := 7) (d' := 84) rfl rfl (h.at_ 7 rfl (pre_of hp 7 rfl))) 92 rfl (by change 92 < 95; decide) rfl _ rfl (run_of_sem rfl (by rw [h.at_ 14 rfl (pre_of hp 14 rfl)]; exact ld_id HRT.out (by have h1 := fun j v hj => hyu.cell (HAC.out j v hj); intro j v hj; refine ⟨_, rfl, h1 j v ?_⟩; rw [HOLe.out]; show (bv ol.1 ++ [Value.string ol.2])[j]? = some v; rw [HOL2.out, List.getElem?_append_left (List.getElem?_eq_some_iff.1 hj).1]; exact hj)))
          case o16 =>
            intro f a u h hfi hp hq
            exact h.yieldG rfl (wanted_yes (g := 7) (d' := 84) rfl rfl (h.at_ 7 rfl (pre_of hp 7 rfl))) 93 rfl (by change 93 < 95; decide) rfl _ rfl (run_eql_ob true rt rt (HEQ.out u) 85 92 rfl (h.at_ 8 rfl (pre_of hp 8 rfl)) (h.at_ 15 rfl (pre_of hp 15 rfl)))
          case o17 =>
            intro f a u h hfi hp hq
            have q84 := h.att 7 rfl (pre_of hp 7 rfl)
            have q93 := h.att 16 rfl (pre_of hp 16 rfl)
            exact h.yieldG rfl (wanted_none rfl) 94 rfl (by change 94 < 95; decide) rfl _ rfl (by go_simp)
          case o18 =>
            intro f a u h hfi hp hq
            have q94 := h.att 17 rfl (pre_of hp 17 rfl)
            exact h.yieldG rfl (wanted_none rfl) 4 rfl (by change 4 < 95; decide) rfl _ rfl (by go_simp)
        · intro f a u h hall hfar
          have hyu : Ext w7 u := ((Ext.refl w7).drew).trans h.ext
          have e94 := h.at_ 17 rfl (hall 17 (by decide))
          have e4 := h.at_ 18 rfl (hall 18 (by decide))
          have hag := h.agree.out
          simp only [List.foldl_cons, List.foldl_nil, Act.put, List.setIfInBounds_toArray, List.set_cons_zero, List.set_cons_succ, e94, e4] at hag
          generalize a.eval (.tmp 77) = y77 at hag
          generalize a.eval (.tmp 78) = y78 at hag
          generalize a.eval (.tmp 79) = y79 at hag
          generalize a.eval (.tmp 80) = y80 at hag
          generalize a.eval (.tmp 81) = y81 at hag
          generalize a.eval (.tmp 82) = y82 at hag
          generalize a.eval (.tmp 83) = y83 at hag
          generalize a.eval (.tmp 84) = y84 at hag
          generalize a.eval (.tmp 85) = y85 at hag
          generalize a.eval (.tmp 86) = y86 at hag
          generalize a.eval (.tmp 87) = y87 at hag
          generalize a.eval (.tmp 88) = y88 at hag
          generalize a.eval (.tmp 89) = y89 at hag
          generalize a.eval (.tmp 90) = y90 at hag
          generalize a.eval (.tmp 91) = y91 at hag
          generalize a.eval (.tmp 92) = y92 at hag
          generalize a.eval (.tmp 93) = y93 at hag
          clear h hall hfar e94 e4
          subst hag
          go_wp2
          go_ret
          exact ⟨rfl, hx7w.trans hyu⟩
      · simp only [show ((2 : UInt8).toNat : Int) = 2 from rfl] at HRB ⊢
        go_upto_region 16 with (go_at_call 15; (with_reducible refine Calls.mono (HRB.out w6 hx6w HK.out HGD.out) ?_); rintro e w7 ⟨⟨v7, rfl, ho7⟩, hx7⟩)
        rw [HOS.out] at ho7
        obtain ⟨A7, c7, rfl, _, _, _⟩ := OwnO.form ho7
        rw [HNN.out] at ho7 ⊢
        have HROW7 := Lib.hid (OwnO.row ho7 HIDS.out)
        have HROW3 := Lib.hid (HROW.out.ext hx7)
        have HB57 := Lib.hid (HB5.out.ext hx7)
        have hx7w := hx6w.trans hx7
        obtain ⟨ax, hax, hac⟩ := ob_row HROW7.out (i := N - 1) (by rw [HNN.out]; omega)
        subst hax
        have HAC := Lib.hid hac
        have HOLe : Hid (os[N - 1]'(by rw [HNN.out]; omega) = ol) := Lib.hid (by have := HOL.out; rw [List.getElem?_eq_getElem (by rw [HNN.out]; omega)] at this; exact Option.some.inj this)
        have HEQ : Hid (∀ u : World, (Op.equalIn 10000 27 (.agg (bv rt).toArray) (.agg (bv rt).toArray)).run Tryd.prog u = .ok true u) := Lib.hid (fun u => by have := id_equal rt rt HRT.out HRT.out u; rwa [show (rt == rt) = true from by simp] at this)
        have hsub : (N : Int) - 1 = ((N - 1 : Nat) : Int) := by omega
        have hN1 : N - 1 < N := by omega
        have hwrap : IntKind.i64.wrap ((N - 1 : Nat) : Int) = ((N - 1 : Nat) : Int) := by simp [IntKind.wrap, IntKind.bits, IntKind.signed]; omega
        clear ho7 hx7 hac HRB hx6w HROW HB5
        refine wp_region_ops (FInv [77, 78, 79, 80, 81, 82, 83, 84, 85, 86, 87, 88, 89, 90, 91, 92, 93, 94, 4] _ w7.drew [⟨0, none, 77, .val (.int .i64 0)⟩, ⟨1, none, 78, .val (.bool true)⟩, ⟨2, none, 79, .val (.bool true)⟩, ⟨3, none, 80, .val (.slice A3 N c3)⟩, ⟨4, none, 81, .val (.slice (some ax) N c7)⟩, ⟨5, none, 82, .val (.bool true)⟩, ⟨6, none, 83, .val (.bool true)⟩, ⟨7, none, 84, .val (.bool true)⟩, ⟨8, none, 85, .val (.agg (bv rt).toArray)⟩, ⟨9, none, 86, .val (.slice (some ax) N c7)⟩, ⟨10, none, 87, .val (.slice (some ax) N c7)⟩, ⟨11, none, 88, .val (.int .i64 (N : Int))⟩, ⟨12, none, 89, .val (.int .i64 ((N - 1 : Nat) : Int))⟩, ⟨13, none, 90, .val (.pointer (some (ax.add ((N - 1) * 34))))⟩, ⟨14, none, 91, .val (.pointer (some (ax.add ((N - 1) * 34))))⟩, ⟨15, none, 92, .val (.agg (bv rt).toArray)⟩, ⟨16, none, 93, .val (.bool true)⟩, ⟨17, none, 94, .val (.bool true)⟩, ⟨18, none, 4, .val (.bool true)⟩]) (by kernel_rfl) (by kernel_rfl) FInv.start ?_ ?_
        · refine ⟨?o0, ?o1, ?o2, ?o3, ?o4, ?o5, ?o6, ?o7, ?o8, ?o9, ?o10, ?o11, ?o12, ?o13, ?o14, ?o15, ?o16, ?o17, ?o18, trivial⟩
          case o0 =>
            intro f a u h hfi hp hq
            have q7 : a.tmps[7]?.getD undef = .int .i64 0 := h.agree.att (by decide)
            exact h.yieldG rfl (wanted_none rfl) 77 rfl (by change 77 < 95; decide) rfl _ rfl (by go_simp)
          case o1 =>
            intro f a u h hfi hp hq
            have q77 := h.att 0 rfl (pre_of hp 0 rfl)
            exact h.yieldG rfl (wanted_none rfl) 78 rfl (by change 78 < 95; decide) rfl _ rfl (by go_simp)
          case o2 =>
            intro f a u h hfi hp hq
            have q78 := h.att 1 rfl (pre_of hp 1 rfl)
            exact h.yieldG rfl (wanted_none rfl) 79 rfl (by change 79 < 95; decide) rfl _ rfl (by go_simp)
          case o3 =>
            intro f a u h hfi hp hq
            have q6 : a.tmps[6]?.getD undef = .slice A3 N c3 := h.agree.att (by decide)
            exact h.yieldG rfl (wanted_yes (g := 2) (d' := 79) rfl rfl (h.at_ 2 rfl (pre_of hp 2 rfl))) 80 rfl (by change 80 < 95; decide) rfl _ rfl (by go_simp)
          case o4 =>
            intro f a u h hfi hp hq
            have q9 : a.tmps[9]?.getD undef = .slice (some ax) N c7 := h.agree.att (by decide)
            exact h.yieldG rfl (wanted_yes (g := 2) (d' := 79) rfl rfl (h.at_ 2 rfl (pre_of hp 2 rfl))) 81 rfl (by change 81 < 95; decide) rfl _ rfl (by go_simp)
          case o5 =>
            intro f a u h hfi hp hq
            have hyu : Ext w7 u := ((Ext.refl w7).drew).trans h.ext
            exact h.callG rfl (wanted_yes (g := 2) (d' := 79) rfl rfl (h.at_ 2 rfl (pre_of hp 2 rfl))) 82 rfl (by change 82 < 95; decide) rfl _ rfl 16 #[.tmp 80, .tmp 81] #[28, 28] _ rfl (by kernel_rfl) (by rw [arr2, h.at_ 3 rfl (pre_of hp 3 rfl), h.at_ 4 rfl (pre_of hp 4 rfl)] <;> rfl) (rsameO_calls os A3 (some ax) N c3 c7 u HNN.out (HROW3.out.ext hyu) (HROW7.out.ext hyu) (by omega) HIDS.out)
          case o6 =>
            intro f a u h hfi hp hq
            have q79 := h.att 2 rfl (pre_of hp 2 rfl)
            have q82 := h.att 5 rfl (pre_of hp 5 rfl)
            exact h.yieldG rfl (wanted_none rfl) 83 rfl (by change 83 < 95; decide) rfl _ rfl (by go_simp)
          case o7 =>
            intro f a u h hfi hp hq
            have q83 := h.att 6 rfl (pre_of hp 6 rfl)
            exact h.yieldG rfl (wanted_none rfl) 84 rfl (by change 84 < 95; decide) rfl _ rfl (by go_simp)
          case o8 =>
            intro f a u h hfi hp hq
            have hyu : Ext w7 u := ((Ext.refl w7).drew).trans h.ext
            exact h.yieldG rfl (wanted_yes (g := 7) (d' := 84) rfl rfl (h.at_ 7 rfl (pre_of hp 7 rfl))) 85 rfl (by change 85 < 95; decide) rfl _ rfl (run_of_sem rfl (by rw [(show a.eval (.tmp 5) = .pointer (some ⟨g5, 0, none⟩) from h.agree.eval (by decide))]; exact run_load_blk (HB57.out.ext hyu) Tryd.underlying27 rfl (by rw [List.size_toArray, bv_length, HRT.out]; kernel_rfl)))
          case o9 =>
            intro f a u h hfi hp hq
            have q9 : a.tmps[9]?.getD undef = .slice (some ax) N c7 := h.agree.att (by decide)
            exact h.yieldG rfl (wanted_yes (g := 7) (d' := 84) rfl rfl (h.at_ 7 rfl (pre_of hp 7 rfl))) 86 rfl (by change 86 < 95; decide) rfl _ rfl (by go_simp)
          case o10 =>
            intro f a u h hfi hp hq
            have q9 : a.tmps[9]?.getD undef = .slice (some ax) N c7 := h.agree.att (by decide)
            exact h.yieldG rfl (wanted_yes (g := 7) (d' := 84) rfl rfl (h.at_ 7 rfl (pre_of hp 7 rfl))) 87 rfl (by change 87 < 95; decide) rfl _ rfl (by go_simp)
          case o11 =>
            intro f a u h hfi hp hq
            have q87 := h.att 10 rfl (pre_of hp 10 rfl)
            exact h.yieldG rfl (wanted_yes (g := 7) (d' := 84) rfl rfl (h.at_ 7 rfl (pre_of hp 7 rfl))) 88 rfl (by change 88 < 95; decide) rfl _ rfl (by go_simp)
          case o12 =>
            intro f a u h hfi hp hq
            have hs := hsub
            have hwr := hwrap
            have q88 := h.att 11 rfl (pre_of hp 11 rfl)
            exact h.yieldG rfl (wanted_yes (g := 7) (d' := 84) rfl rfl (h.at_ 7 rfl (pre_of hp 7 rfl))) 89 rfl (by change 89 < 95; decide) rfl _ rfl (by go_simp)
          case o13 =>
            intro f a u h hfi hp hq
            exact h.yieldG rfl (wanted_yes (g := 7) (d' := 84) rfl rfl (h.at_ 7 rfl (pre_of hp 7 rfl))) 90 rfl (by change 90 < 95; decide) rfl _ rfl (run_of_sem rfl (by rw [h.at_ 9 rfl (pre_of hp 9 rfl), h.at_ 12 rfl (pre_of hp 12 rfl)]; exact ix_obj rfl hN1))
          case o14 =>
            intro f a u h hfi hp hq
            exact h.yieldG rfl (wanted_yes (g := 7) (d' := 84) rfl rfl (h.at_ 7 rfl (pre_of hp 7 rfl))) 91 rfl (by change 91 < 95; decide) rfl _ rfl (run_of_sem rfl (by rw [h.at_ 13 rfl (pre_of hp 13 rfl)]; exact f_obj0 _ _))
          case o15 =>
            intro f a u h hfi hp hq
            have hyu : Ext w7 u := ((Ext.refl w7).drew).trans h.ext
            exact h.yieldG rfl (wanted_yes (g := 7) (d' := 84) rfl rfl (h.at_ 7 rfl (pre_of hp 7 rfl))) 92 rfl (by change 92 < 95; decide) rfl _ rfl (run_of_sem rfl (by rw [h.at_ 14 rfl (pre_of hp 14 rfl)]; exact ld_id HRT.out (by have h1 := fun j v hj => hyu.cell (HAC.out j v hj); intro j v hj; refine ⟨_, rfl, h1 j v ?_⟩; rw [HOLe.out]; show (bv ol.1 ++ [Value.string ol.2])[j]? = some v; rw [HOL2.out, List.getElem?_append_left (List.getElem?_eq_some_iff.1 hj).1]; exact hj)))
          case o16 =>
            intro f a u h hfi hp hq
            exact h.yieldG rfl (wanted_yes (g := 7) (d' := 84) rfl rfl (h.at_ 7 rfl (pre_of hp 7 rfl))) 93 rfl (by change 93 < 95; decide) rfl _ rfl (run_eql_ob true rt rt (HEQ.out u) 85 92 rfl (h.at_ 8 rfl (pre_of hp 8 rfl)) (h.at_ 15 rfl (pre_of hp 15 rfl)))
          case o17 =>
            intro f a u h hfi hp hq
            have q84 := h.att 7 rfl (pre_of hp 7 rfl)
            have q93 := h.att 16 rfl (pre_of hp 16 rfl)
            exact h.yieldG rfl (wanted_none rfl) 94 rfl (by change 94 < 95; decide) rfl _ rfl (by go_simp)
          case o18 =>
            intro f a u h hfi hp hq
            have q94 := h.att 17 rfl (pre_of hp 17 rfl)
            exact h.yieldG rfl (wanted_none rfl) 4 rfl (by change 4 < 95; decide) rfl _ rfl (by go_simp)
        · intro f a u h hall hfar
          have hyu : Ext w7 u := ((Ext.refl w7).drew).trans h.ext
          have e94 := h.at_ 17 rfl (hall 17 (by decide))
          have e4 := h.at_ 18 rfl (hall 18 (by decide))
          have hag := h.agree.out
          simp only [List.foldl_cons, List.foldl_nil, Act.put, List.setIfInBounds_toArray, List.set_cons_zero, List.set_cons_succ, e94, e4] at hag
          generalize a.eval (.tmp 77) = y77 at hag
          generalize a.eval (.tmp 78) = y78 at hag
          generalize a.eval (.tmp 79) = y79 at hag
          generalize a.eval (.tmp 80) = y80 at hag
          generalize a.eval (.tmp 81) = y81 at hag
          generalize a.eval (.tmp 82) = y82 at hag
          generalize a.eval (.tmp 83) = y83 at hag
          generalize a.eval (.tmp 84) = y84 at hag
          generalize a.eval (.tmp 85) = y85 at hag
          generalize a.eval (.tmp 86) = y86 at hag
          generalize a.eval (.tmp 87) = y87 at hag
          generalize a.eval (.tmp 88) = y88 at hag
          generalize a.eval (.tmp 89) = y89 at hag
          generalize a.eval (.tmp 90) = y90 at hag
          generalize a.eval (.tmp 91) = y91 at hag
          generalize a.eval (.tmp 92) = y92 at hag
          generalize a.eval (.tmp 93) = y93 at hag
          clear h hall hfar e94 e4
          subst hag
          go_wp2
          go_ret
          exact ⟨rfl, hx7w.trans hyu⟩
    · obtain ⟨z, hz⟩ : ∃ z, z = idNone := ⟨_, rfl⟩
      have HZ : Hid (z.length = 33) := Lib.hid (by rw [hz]; rfl)
      rw [← hz]
      have hbz : ∀ u : World, (Instr.build 27 #[]).run Tryd.prog u = .ok (.agg (bv z).toArray) u := fun u => by rw [hz]; exact build_idz u
      have hzz : ∀ u : World, (Op.equalIn 10000 27 (.agg (bv z).toArray) (.agg (bv z).toArray)).run Tryd.prog u = .ok true u := fun u => by have := id_equal z z HZ.out HZ.out u; rwa [show (z == z) = true from by simp] at this
      have HBZ := Lib.hid hbz
      have HZZ := Lib.hid hzz
      have hbadg : ¬ (0 < idN k ∧ goodT ps = true) := hbad
      have HBAD := Lib.hid hbad
      have HQ := Lib.hid hq
      have hq0i : ¬ (q : Int) = 0 := by omega
      clear hz hbz hzz hbad hbadg hq HAL HGR HBD hb HRB
      go_upto_region 6 with (refine wpList_store_blk rfl 27 (.tmp 5) (.tmp 18) rfl rfl w3.heap.size (bv z).toArray rfl rfl _ _ (Blk.new w3 _ _) (by rw [List.size_toArray, bv_length, HZ.out]; rfl) (by kernel_rfl) (fun v hv => bv_cells _ v (by simpa using hv)) ?_; intro w4 hb5 hg5; have hx34 : Ext w3 w4 := ((Ext.refl _).alloc _).grown_ hg5 (fun j e => by cases e; exact Nat.le_refl _); clear hg5)
      obtain ⟨g5, hg5e⟩ : ∃ g, g = w3.heap.size := ⟨_, rfl⟩
      rw [← hg5e] at hb5 ⊢
      have hx4 := (hx12.trans hx3).trans hx34
      have HB5 := Lib.hid hb5
      clear hb5 hg5e hx34 hx3 hx12
      obtain ⟨gd, hgd⟩ : ∃ b, goodT ps = b := ⟨_, rfl⟩
      rw [hgd] at HG1 HG2
      have HGD := Lib.hid hgd
      have hbb : ((gd : Bool) == gd) = true := by simp
      clear hgd
      go_upto_region 9 with (first
        | (go_at_call 13; (with_reducible refine Calls.mono (HG1.out w4 hx4) ?_); rintro e w5 ⟨rfl, hx5⟩; have hx5w := hx4.trans hx5)
        | (go_at_call 14; (with_reducible refine Calls.mono (HG2.out w5 hx5w) ?_); rintro e w6 ⟨rfl, hx6⟩))
      have hx46 := hx5.trans hx6
      have hx6w := hx5w.trans hx6
      have hcx : ∀ (j : Nat) (v : Value), (bv z)[j]? = some v → w6.cell? ((⟨g5, 0, none⟩ : Addr).add j) = some v := fun j v hv => by
        have h1 := (HB5.out.ext hx46).cells
        rw [List.toList_toArray] at h1
        obtain ⟨y, hy, hc⟩ := h1 j v hv
        cases hy
        exact hc
      have HCX := Lib.hid hcx
      clear hx5 hx6 hx5w hx46 hx4 HG1 HG2 hcx HB5
      rcases k_cases k with hkc | hk0
      · have hidk : 0 < idN k := by rcases hkc with rfl | rfl <;> decide
        by_cases h256 : 256 < n
        · have h256i : (256 : Int) < (n : Int) := by omega
          obtain rfl : q = 3 := by rw [HQ.out, if_pos ⟨hidk, by rw [HN.out]; exact h256⟩]
          clear hidk HQ HBAD
          rcases hkc with rfl | rfl
          · go_wp2_with (first
              | (refine wpList_load_row_g (g := 7) (d' := 55) rfl rfl rfl 27 (.tmp 5) rfl ⟨g5, 0, none⟩ rfl (bv z) _ HCX.out Tryd.underlying27 rfl (by rw [id_info, bv_length, HZ.out]) ?_)
              | (refine wpList_yield_g (g := 7) (d' := 55) rfl rfl rfl (.agg (bv z).toArray) (run_of_sem (s := Instr.build 27 #[]) (exec_build rfl (by rw [arr0])) (HBZ.out _)) ?_)
              | (refine wpList_yield_g (g := 7) (d' := 55) rfl rfl rfl (.bool true) (run_eq_id 56 57 (bv z).toArray (bv z).toArray true rfl rfl rfl (HZZ.out _)) ?_))
            go_ret
            exact ⟨rfl, hx6w⟩
          · go_wp2_with (first
              | (refine wpList_load_row_g (g := 7) (d' := 55) rfl rfl rfl 27 (.tmp 5) rfl ⟨g5, 0, none⟩ rfl (bv z) _ HCX.out Tryd.underlying27 rfl (by rw [id_info, bv_length, HZ.out]) ?_)
              | (refine wpList_yield_g (g := 7) (d' := 55) rfl rfl rfl (.agg (bv z).toArray) (run_of_sem (s := Instr.build 27 #[]) (exec_build rfl (by rw [arr0])) (HBZ.out _)) ?_)
              | (refine wpList_yield_g (g := 7) (d' := 55) rfl rfl rfl (.bool true) (run_eq_id 56 57 (bv z).toArray (bv z).toArray true rfl rfl rfl (HZZ.out _)) ?_))
            go_ret
            exact ⟨rfl, hx6w⟩
        · have h256i : ¬ (256 : Int) < (n : Int) := by omega
          obtain rfl : q = 1 := by rw [HQ.out, if_neg (fun h => h256 (by rw [← HN.out]; exact h.2))]
          obtain rfl : gd = false := by
            cases gd with
            | false => rfl
            | true => exact absurd ⟨hidk, HGD.out⟩ HBAD.out
          clear hidk HQ hbb HBAD
          rcases hkc with rfl | rfl
          · go_wp2_with (first
              | (refine wpList_load_row_g (g := 7) (d' := 69) rfl rfl rfl 27 (.tmp 5) rfl ⟨g5, 0, none⟩ rfl (bv z) _ HCX.out Tryd.underlying27 rfl (by rw [id_info, bv_length, HZ.out]) ?_)
              | (refine wpList_yield_g (g := 7) (d' := 69) rfl rfl rfl (.agg (bv z).toArray) (run_of_sem (s := Instr.build 27 #[]) (exec_build rfl (by rw [arr0])) (HBZ.out _)) ?_)
              | (refine wpList_yield_g (g := 7) (d' := 69) rfl rfl rfl (.bool true) (run_eq_id 70 71 (bv z).toArray (bv z).toArray true rfl rfl rfl (HZZ.out _)) ?_))
            go_ret
            exact ⟨rfl, hx6w⟩
          · go_wp2_with (first
              | (refine wpList_load_row_g (g := 7) (d' := 69) rfl rfl rfl 27 (.tmp 5) rfl ⟨g5, 0, none⟩ rfl (bv z) _ HCX.out Tryd.underlying27 rfl (by rw [id_info, bv_length, HZ.out]) ?_)
              | (refine wpList_yield_g (g := 7) (d' := 69) rfl rfl rfl (.agg (bv z).toArray) (run_of_sem (s := Instr.build 27 #[]) (exec_build rfl (by rw [arr0])) (HBZ.out _)) ?_)
              | (refine wpList_yield_g (g := 7) (d' := 69) rfl rfl rfl (.bool true) (run_eq_id 70 71 (bv z).toArray (bv z).toArray true rfl rfl rfl (HZZ.out _)) ?_))
            go_ret
            exact ⟨rfl, hx6w⟩
      · obtain rfl : q = 1 := by rw [HQ.out, if_neg (fun h => by omega)]
        have hk1 : ((k.toNat : Int) == 1) = false := by
          rw [beq_eq_false_iff_ne]
          intro e
          have : k = 1 := by apply UInt8.toNat_inj.1; show k.toNat = 1; omega
          subst this
          cases hk0
        have hk2 : ((k.toNat : Int) == 2) = false := by
          rw [beq_eq_false_iff_ne]
          intro e
          have : k = 2 := by apply UInt8.toNat_inj.1; show k.toNat = 2; omega
          subst this
          cases hk0
        have hk1b : ((k.toNat : Int) != 1) = true := by rw [bne, hk1]; rfl
        have hk2b : ((k.toNat : Int) != 2) = true := by rw [bne, hk2]; rfl
        clear hk0 HQ hk1 hk2
        go_wp2_with (first
              | (refine wpList_load_row_g (g := 7) (d' := 40) rfl rfl rfl 27 (.tmp 5) rfl ⟨g5, 0, none⟩ rfl (bv z) _ HCX.out Tryd.underlying27 rfl (by rw [id_info, bv_length, HZ.out]) ?_)
              | (refine wpList_yield_g (g := 7) (d' := 40) rfl rfl rfl (.agg (bv z).toArray) (run_of_sem (s := Instr.build 27 #[]) (exec_build rfl (by rw [arr0])) (HBZ.out _)) ?_)
              | (refine wpList_yield_g (g := 7) (d' := 40) rfl rfl rfl (.bool true) (run_eq_id 41 42 (bv z).toArray (bv z).toArray true rfl rfl rfl (HZZ.out _)) ?_))
        go_ret
        exact ⟨rfl, hx6w⟩
  · go_wp2
    go_ret
    exact ⟨rfl, hx1.trans hx2⟩
end Go.Proofs.YtcnhbodemabbdaaDoor
