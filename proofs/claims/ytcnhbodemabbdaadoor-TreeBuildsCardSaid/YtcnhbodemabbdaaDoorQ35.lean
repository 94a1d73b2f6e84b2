/- tree.Build: what it answers. Printed by wip/mktreebuild.py. -/
import Derived.Test.YtcnhbodemabbdaaDoorQ30
import Derived.Test.YtcnhbodemabbdaaDoorQ33
import Derived.Test.YtcnhbodemabbdaaDoorQ34
namespace Go.Proofs.YtcnhbodemabbdaaDoor
open Go.RowKit
set_option linter.unusedVariables false

theorem blk_cellsT {w : World} {g : Nat} {t : TypeId} {l : List Value} (h : Blk w g t l.toArray) : ∀ j v, l[j]? = some v → w.cell? ((⟨g, 0, none⟩ : Addr).add j) = some v := fun j v hv => by
  rw [add_new, h.cell, ← Array.getElem?_toList, List.toList_toArray]
  exact hv
theorem ownO_snoc {B : Nat} {w : World} {v : Value} {l : List Ent2} {o : Ent2} (h : w.ownsRow B 35 34 v (l.length + 1) ((l.map obC).flatten ++ obC o)) : OwnO B w v (l ++ [o]) := by
  unfold OwnO
  rw [List.length_append, List.map_append, List.flatten_append]
  simpa using h
theorem ownK_snoc {B : Nat} {w : World} {v : Value} {l : List Kd} {k : Kd} (h : w.ownsRow B 77 34 v (l.length + 1) ((l.map kdC).flatten ++ kdC k)) : OwnK B w v (l ++ [k]) := by
  unfold OwnK
  rw [List.length_append, List.map_append, List.flatten_append]
  simpa using h
theorem made_leaf (k : UInt8) (cc : List Pr) (A : Option Addr) (L c : Nat) (w : World) (hr : Row w A 2 (cc.map prC)) (hL : cc.length = L) (hLc : L ≤ c) (h4 : L ≤ 4) (hp : PrsOk cc) (hT : Tab w) (o : Ent2) (ho : o = objT k (leafT cc)) :
    Calls Tryd.prog 35 #[.int .u8 k.toNat, .agg #[.slice A L c, .slice none 0 0]] w fun e w' => e = .returned (.tuple #[.agg (obC o).toArray, .int .i64 0]) ∧ Ext w w' := by
  subst ho
  exact made_calls k (leafT cc) A none L 0 c 0 w ⟨hL, rfl, hLc, Nat.le_refl _, hr, Cells.row (Cells.nil _ _) (fun cs hcs => by cases hcs) (by decide), by omega, by omega, fun p hp' => by have := hp.each p hp'; omega, fun p hp' => by cases hp'⟩ (leafT_good hp (by omega)) (leaf_bytes hp (by omega)) hT
theorem made_up (k : UInt8) (cc : List Kd) (A : Option Addr) (L c : Nat) (w : World) (hr : Row w A 34 (cc.map kdC)) (hL : cc.length = L) (hLc : L ≤ c) (h2 : 2 ≤ L) (h3 : L ≤ 3) (hp : RowOk k cc) (hT : Tab w) (o : Ent2) (ho : o = objT k (upT cc)) (hk : 0 < idN k := by assumption) :
    Calls Tryd.prog 35 #[.int .u8 k.toNat, .agg #[.slice none 0 0, .slice A L c]] w fun e w' => e = .returned (.tuple #[.agg (obC o).toArray, .int .i64 0]) ∧ Ext w w' := by
  subst ho
  exact made_calls k (upT cc) none A 0 L 0 c w ⟨rfl, hL, Nat.le_refl _, hLc, Cells.row (Cells.nil _ _) (fun cs hcs => by cases hcs) (by decide), hr, by omega, by omega, (fun p hp' => by cases hp'), (fun p hp' => by have := hp.each p hp'; exact ⟨by omega, this.2.1⟩)⟩ (upT_good hk hp (by omega) (by omega)) (up_bytes hp (by omega) (by omega)) hT
theorem group_calls (n : Nat) (w : World) (hn : n ≤ 1000 := by omega) : Calls Tryd.prog 36 #[.int .i64 n] w fun e w' => e = .returned (.int .i64 (grp n)) ∧ w = w' := by
  by_cases h4 : n = 4
  · subst h4
    go_enter Tryd.func36, Tryd.ntmps36
    go_wp2
    go_ret
    exact ⟨rfl, rfl⟩
  by_cases h2 : n = 2
  · subst h2
    go_enter Tryd.func36, Tryd.ntmps36
    go_wp2
    go_ret
    exact ⟨rfl, rfl⟩
  have e : grp n = min n 3 := by unfold grp; rw [if_neg (by omega)]
  rw [e]
  have h4i : ((n : Int) == 4) = false := by rw [beq_eq_false_iff_ne]; omega
  have h2i : ((n : Int) == 2) = false := by rw [beq_eq_false_iff_ne]; omega
  by_cases h3 : n ≤ 3
  · have h3i : (n : Int) ≤ 3 := by omega
    have e2 : min n 3 = n := by omega
    rw [e2]
    go_enter Tryd.func36, Tryd.ntmps36
    go_wp2
    go_ret
    exact ⟨rfl, rfl⟩
  · have h3i : ¬ (n : Int) ≤ 3 := by omega
    have h3j : (3 : Int) < (n : Int) := by omega
    have e2 : min n 3 = 3 := by omega
    rw [e2]
    go_enter Tryd.func36, Tryd.ntmps36
    go_wp2
    go_ret
    exact ⟨rfl, rfl⟩
theorem cell_lt {w : World} {x : Addr} {v : Value} (h : w.cell? x = some v) : x.block < w.heap.size := by
  by_cases hb : x.block < w.heap.size
  · exact hb
  · simp [World.cell?, Array.getElem?_eq_none (Nat.le_of_not_lt hb)] at h
theorem flatten_len34 : ∀ {css : List (List Value)}, (∀ cs ∈ css, cs.length = 34) → css.flatten.length = css.length * 34
  | [], _ => rfl
  | a :: t, h => by
    have h1 := flatten_len34 (css := t) fun x hx => h x (List.mem_cons_of_mem _ hx)
    have h2 := h a (List.mem_cons_self ..)
    rw [List.flatten_cons, List.length_append, List.length_cons, Nat.succ_mul]
    omega
theorem flatten_drop34 : ∀ {css : List (List Value)}, (∀ cs ∈ css, cs.length = 34) → ∀ q, css.flatten.drop (q * 34) = (css.drop q).flatten
  | css, h, 0 => by simp
  | [], h, q + 1 => by simp
  | a :: t, h, q + 1 => by
    have ha := h a (List.mem_cons_self ..)
    rw [List.flatten_cons, Nat.succ_mul, Nat.add_comm, List.drop_append, List.drop_succ_cons]
    rw [List.drop_of_length_le (by omega), List.nil_append, ha, Nat.add_sub_cancel_left]
    exact flatten_drop34 (fun cs hcs => h cs (List.mem_cons_of_mem _ hcs)) q
/-- The leaves' loop: what has been made, what is left. -/
def LeafSt (k : UInt8) (ps : List Pr) (n m : Nat) (outs : List Ent2) (ks : List Kd) : Prop :=
  ((m = 0 ∨ m < n) ∧ outs ++ leafO k (ps.drop m) = leafO k ps ∧ ks ++ leafR k (ps.drop m) = leafR k ps) ∨ (¬ (m = 0 ∨ m < n) ∧ outs = leafO k ps ∧ ks = leafR k ps)
theorem leaf_step {k : UInt8} {ps : List Pr} {n m : Nat} {outs : List Ent2} {ks : List Kd} {cc : List Pr} {o : Ent2} {key : ByteArray} (h : LeafSt k ps n m outs ks) (hn : ps.length = n) (hgo : m = 0 ∨ m < n) (hcc : cc = (ps.drop m).take 4) (ho : o = objT k (leafT cc)) (hk : headP cc = key) : LeafSt k ps n (m + 4) (outs ++ [o]) (ks ++ [(key, o.1)]) := by
  rcases h with ⟨_, h1, h2⟩ | ⟨h0, _⟩
  · by_cases h4 : (ps.drop m).length ≤ 4
    · right
      rw [List.length_drop] at h4
      refine ⟨by omega, ?_, ?_⟩
      · rw [← h1]
        unfold leafO
        rw [chunks_le (by rw [List.length_drop]; omega), List.map_singleton, ho, hcc, List.take_of_length_le (by rw [List.length_drop]; omega)]
      · rw [← h2]
        unfold leafR
        rw [chunks_le (by rw [List.length_drop]; omega), List.map_singleton, ho, ← hk, hcc, List.take_of_length_le (by rw [List.length_drop]; omega)]
    · left
      have h5 := h4
      rw [List.length_drop] at h5
      refine ⟨by omega, ?_, ?_⟩
      · rw [← h1]
        conv => rhs; unfold leafO
        rw [chunks_gt h4, List.map_cons, ho, hcc, List.drop_drop, List.append_assoc]
        rfl
      · rw [← h2]
        conv => rhs; unfold leafR
        rw [chunks_gt h4, List.map_cons, ho, ← hk, hcc, List.drop_drop, List.append_assoc]
        rfl
  · exact absurd hgo h0
theorem leafSt_len {k : UInt8} {ps : List Pr} {n m : Nat} {outs : List Ent2} {ks : List Kd} (h : LeafSt k ps n m outs ks) (hn : ps.length = n) (h256 : n ≤ 256) : outs.length ≤ 65 ∧ ks.length ≤ 65 := by
  have hl := chunks_len ps.length ps (Nat.le_refl _)
  have e1 : (leafO k ps).length = (chunks ps).length := by unfold leafO; rw [List.length_map]
  have e2 : (leafR k ps).length = (chunks ps).length := by unfold leafR; rw [List.length_map]
  rcases h with ⟨_, h1, h2⟩ | ⟨_, rfl, rfl⟩
  · have a1 := congrArg List.length h1
    have a2 := congrArg List.length h2
    rw [List.length_append] at a1 a2
    omega
  · omega
def BuildP (k : UInt8) (ps : List Pr) (w : World) (e : Ending) (w' : World) : Prop :=
  ((0 < idN k ∧ goodT ps = true ∧ ∃ v, e = .returned (.tuple #[.agg (bv (buildT k ps).2).toArray, v, .int .i64 0]) ∧ OwnO w.heap.size w' v (buildT k ps).1) ∨ (¬ (0 < idN k ∧ goodT ps = true) ∧ e = .returned (.tuple #[.agg (bv idNone).toArray, .slice none 0 0, .int .i64 (if 0 < idN k ∧ 256 < ps.length then 3 else 1)]))) ∧ Ext w w'
theorem BuildP.bad {k : UInt8} {ps : List Pr} {w w' : World} (c : Int) (h : ¬ (0 < idN k ∧ goodT ps = true)) (hc : c = if 0 < idN k ∧ 256 < ps.length then 3 else 1) (hx : Ext w w') : BuildP k ps w (.returned (.tuple #[.agg (bv idNone).toArray, .slice none 0 0, .int .i64 c])) w' :=
  ⟨.inr ⟨h, by rw [hc]⟩, hx⟩
theorem BuildP.ok {k : UInt8} {ps : List Pr} {w w' : World} {v : Value} {x : List UInt8} (h1 : 0 < idN k) (h2 : goodT ps = true) (hx : (buildT k ps).2 = x) (ho : OwnO w.heap.size w' v (buildT k ps).1) (hxx : Ext w w') : BuildP k ps w (.returned (.tuple #[.agg (bv x).toArray, v, .int .i64 0])) w' :=
  ⟨.inl ⟨h1, h2, v, by rw [hx], ho⟩, hxx⟩
set_option maxRecDepth 100000 in
set_option maxHeartbeats 32000000 in
theorem build_calls (k : UInt8) (ps : List Pr) (A : Option Addr) (n c : Nat) (w : World) (hr : Row w A 2 (ps.map prC)) (hn : ps.length = n) (hnc : n ≤ c) (hl : n ≤ 140737488351232) (hs : ∀ p ∈ ps, p.1.size ≤ 140737488351232 ∧ p.2.size ≤ 140737488351232) (hT : Tab w) :
    Calls Tryd.prog 12 #[.int .u8 k.toNat, .slice A n c] w (BuildP k ps w) := by
  have HR := Lib.hid hr
  have HN := Lib.hid hn
  have HT := Lib.hid hT
  have HGD := Lib.hid (fun (u : World) (hu : Ext w u) => tgood_calls ps A n c u (hr.ext hu) hn hl hs)
  have HSZ := Lib.hid (fun (u : World) => size_calls k u)
  clear hr hn hs hT
  go_enter Tryd.func12, Tryd.ntmps12
  obtain ⟨w1, hw1⟩ : ∃ w1, w1 = w.alloc (.cells (bv idNone).toArray 27) := ⟨_, rfl⟩
  have hx1 : Ext w w1 := by rw [hw1]; exact (Ext.refl _).alloc _
  have hb4 : Blk w1 w.heap.size 27 (bv idNone).toArray := by rw [hw1]; exact Blk.new w _ _
  go_upto_region 1 with (fail)
  rw [show (#[.int .u8 0, .int .u8 0, .int .u8 0, .int .u8 0, .int .u8 0, .int .u8 0, .int .u8 0, .int .u8 0, .int .u8 0, .int .u8 0, .int .u8 0, .int .u8 0, .int .u8 0, .int .u8 0, .int .u8 0, .int .u8 0, .int .u8 0, .int .u8 0, .int .u8 0, .int .u8 0, .int .u8 0, .int .u8 0, .int .u8 0, .int .u8 0, .int .u8 0, .int .u8 0, .int .u8 0, .int .u8 0, .int .u8 0, .int .u8 0, .int .u8 0, .int .u8 0, .int .u8 0] : Array Value) = (bv idNone).toArray from rfl, ← hw1]
  obtain ⟨g4, hg4e⟩ : ∃ g, g = w.heap.size := ⟨_, rfl⟩
  rw [← hg4e] at hb4 ⊢
  have hg4 : w.heap.size ≤ g4 := by omega
  have HB4 := Lib.hid hb4
  obtain ⟨B, hB⟩ : ∃ b, b = w1.heap.size := ⟨_, rfl⟩
  have hg4B : g4 < B := by rw [hB]; exact hb4.lt
  have hwB : w.heap.size ≤ B := by omega
  have hB1 : B ≤ w1.heap.size := by rw [hB]; exact Nat.le_refl _
  have hB1' : w1.heap.size ≤ B := by rw [hB]; exact Nat.le_refl _
  clear hw1 hb4 hg4e hB
  obtain ⟨sz, hsz⟩ : ∃ s, idN k = s := ⟨_, rfl⟩
  rw [hsz] at HSZ
  have HSE := Lib.hid hsz
  clear hsz
  have hxs : Ext w1 w1 := Ext.refl _
  by_cases hs0 : sz = 0
  · have hs0i : (sz : Int) = 0 := by omega
    go_wp2_with (first
      | (go_at_call 34; (with_reducible refine Calls.mono (HSZ.out w1) ?_); rintro e w' ⟨rfl, rfl⟩)
      | (refine wpList_store_blk rfl 27 (.tmp 4) (.tmp 21) rfl rfl g4 (bv idNone).toArray rfl rfl 27 (bv idNone).toArray (HB4.out.ext hxs) rfl (by kernel_rfl) (by intro v hv; rw [List.toList_toArray] at hv; exact bv_cells _ v hv) ?_; intro wz hbz hgz; have hxz := (hx1.trans hxs).grown_ hgz (fun j e => by cases e; exact hg4)))
    refine bodyPost_ret (results_row_tmp2 (P := Tryd.prog) (fn := Tryd.f12) rfl _ _ g4 27 (bv idNone).toArray _ rfl hbz Tryd.underlying27 rfl (by kernel_rfl)) rfl ?_
    exact BuildP.bad 1 (fun h => by have := HSE.out; omega) (by rw [if_neg (fun h => by have := HSE.out; omega)]) hxz
  have hs0i : ¬ (sz : Int) = 0 := by omega
  have hk0 : 0 < idN k := by have := HSE.out; omega
  by_cases h256 : (256 : Int) < (n : Int)
  · go_wp2_with (first
      | (go_at_call 34; (with_reducible refine Calls.mono (HSZ.out w1) ?_); rintro e w' ⟨rfl, rfl⟩)
      | (refine wpList_store_blk rfl 27 (.tmp 4) (.tmp 25) rfl rfl g4 (bv idNone).toArray rfl rfl 27 (bv idNone).toArray (HB4.out.ext hxs) rfl (by kernel_rfl) (by intro v hv; rw [List.toList_toArray] at hv; exact bv_cells _ v hv) ?_; intro wz hbz hgz; have hxz := (hx1.trans hxs).grown_ hgz (fun j e => by cases e; exact hg4)))
    refine bodyPost_ret (results_row_tmp2 (P := Tryd.prog) (fn := Tryd.f12) rfl _ _ g4 27 (bv idNone).toArray _ rfl hbz Tryd.underlying27 rfl (by kernel_rfl)) rfl ?_
    exact BuildP.bad 3 (fun h => by have h1 := h.2; unfold goodT at h1; simp only [Bool.and_eq_true, decide_eq_true_eq] at h1; have := HN.out; omega) (by rw [if_pos ⟨hk0, by have := HN.out; omega⟩]) hxz
  have hn256 : n ≤ 256 := by omega
  rcases Bool.eq_false_or_eq_true (goodT ps) with hgd | hgd
  rotate_left
  · rw [hgd] at HGD
    have HG0 := Lib.hid hgd
    clear hgd hxs
    go_wp2_with (first
      | (go_at_call 34; (with_reducible refine Calls.mono (HSZ.out w1) ?_); rintro e w' ⟨rfl, rfl⟩)
      | (go_at_call 14; (with_reducible refine Calls.mono (HGD.out w1 hx1) ?_); rintro e w2 ⟨rfl, hxs⟩)
      | (refine wpList_store_blk rfl 27 (.tmp 4) (.tmp 29) rfl rfl g4 (bv idNone).toArray rfl rfl 27 (bv idNone).toArray (HB4.out.ext hxs) rfl (by kernel_rfl) (by intro v hv; rw [List.toList_toArray] at hv; exact bv_cells _ v hv) ?_; intro wz hbz hgz; have hxz := (hx1.trans hxs).grown_ hgz (fun j e => by cases e; exact hg4)))
    refine bodyPost_ret (results_row_tmp2 (P := Tryd.prog) (fn := Tryd.f12) rfl _ _ g4 27 (bv idNone).toArray _ rfl hbz Tryd.underlying27 rfl (by kernel_rfl)) rfl ?_
    exact BuildP.bad 1 (fun h => by rw [HG0.out] at h; cases h.2) (by rw [if_neg (fun h => by have := HN.out; omega)]) hxz
  · rw [hgd] at HGD
    have HP : Hid (PrsOk ps) := Lib.hid (prs_ok (by unfold goodT at hgd; simp only [Bool.and_eq_true] at hgd; exact hgd.2))
    have HG1 := Lib.hid hgd
    clear hgd hxs
    go_upto_region 10 with (first
      | (go_at_call 34; (with_reducible refine Calls.mono (HSZ.out w1) ?_); rintro e w' ⟨rfl, rfl⟩)
      | (go_at_call 14; (with_reducible refine Calls.mono (HGD.out w1 hx1) ?_); rintro e w2 ⟨rfl, hxs⟩))
    have hx2 : Ext w1 w2 := hxs
    have hw0B : w.heap.size ≤ B := hwB
    replace hwB : w1.heap.size ≤ B := hB1'
    replace HR := Lib.hid (HR.out.ext hx1)
    replace HT := Lib.hid (HT.out.ext hx1)
    have hB2 : B ≤ w2.heap.size := Nat.le_trans hB1 hxs.size
    have HB42 := Lib.hid (HB4.out.ext hxs)
    clear HGD HSZ HB42 hxs hB1
    go_loopw [9, 7, 8] (fun i vo vk wr => ∃ (m : Nat) (outs : List Ent2) (ks : List Kd), i = .int .i64 m ∧ m ≤ n + 4 ∧ Hid (OwnO B wr vo outs) ∧ Hid (OwnK B wr vk ks) ∧ Hid (LeafSt k ps n m outs ks) ∧ Ext w1 wr ∧ B ≤ wr.heap.size) (fun i _ _ _ => n + 4 - (intOf i).toNat)
    case atStart => exact ⟨0, [], [], rfl, by omega, Lib.hid (OwnO.nil _ _), Lib.hid (OwnK.nil _ _), Lib.hid (.inl ⟨.inl rfl, rfl, rfl⟩), hx2, hB2⟩
    case round =>
      obtain ⟨m, outs, ks, rfl, hm3, HOO, HOK, HST, hx, hBw⟩ := hrel
      obtain ⟨hol, hkl⟩ := leafSt_len HST.out HN.out hn256
      obtain ⟨vo, hvo⟩ : ∃ v, v = u7 := ⟨_, rfl⟩
      obtain ⟨vk, hvk⟩ : ∃ v, v = u8 := ⟨_, rfl⟩
      subst hvo
      subst hvk
      by_cases hm0 : m = 0
      · subst hm0
        by_cases hfull : 4 ≤ n
        · have h4 : (4 : Int) ≤ (n : Int) := by omega
          obtain ⟨cc, hcc⟩ : ∃ x, x = (ps.drop 0).take 4 := ⟨_, rfl⟩
          have hL : cc.length = 4 := by rw [hcc, List.length_take, List.length_drop, HN.out]; omega
          have hcells : Cells wr A (ps.map prC).flatten := Row.cells (HR.out.ext hx) (by decide)
          have HCE := Lib.hid hcells
          have HPN : Hid ((ps.map prC).flatten.length = n * 2) := Lib.hid (by rw [Row.len HR.out, List.length_map, HN.out])
          have HCC : Hid (PrsOk cc ∧ cc.length ≤ 4) := Lib.hid (by rw [hcc]; exact ⟨(HP.out.drop _).take _, by rw [List.length_take]; omega⟩)
          have HCL := Lib.hid hL
          have HCD := Lib.hid hcc
          have hL4 : 4 ≤ 4 := by omega
          obtain ⟨o, ho⟩ : ∃ o, o = objT k (leafT cc) := ⟨_, rfl⟩
          have HO := Lib.hid ho
          have HO3 : Hid (o.1.length = 33) := Lib.hid (by rw [ho]; exact (obj_id k hk0 _).1)
          have HLT : Hid (∀ j, vo.ownBlock = some j → j < wr.heap.size) := Lib.hid (fun j hj => (own_lt HOO.out hj).2)
          clear hcells hL hcc ho
          have hL0 : 0 < 4 := by omega
          have HROW := Lib.hid (Cells.sub (sz := 2) 0 4 (show Cells wr A ((ps.map prC).flatten.drop (0 * 2)) from by rw [Nat.zero_mul, List.drop_zero]; exact HCE.out) (fun cs hcs => by obtain ⟨p, _, rfl⟩ := List.mem_map.1 hcs; rfl) (by decide))
          go_upto_region 14 with (first
            | (refine wpList_store_blk rfl 73 (.tmp 10) (.tmp 48) rfl rfl wr.heap.size #[.slice A 4 c, .slice none 0 0] rfl rfl _ _ (Blk.new wr _ _) rfl (by kernel_rfl) (by simp [Value.oneCell']) ?_; intro w3 hb10 hg10; have hx3 : Ext wr w3 := ((Ext.refl _).alloc _).grown_ hg10 (fun j e => by cases e; exact Nat.le_refl _); have HB10 := Lib.hid hb10; clear hb10 hg10)
            | (refine wpList_load_row_ rfl 73 (.tmp 10) rfl ⟨wr.heap.size, 0, none⟩ rfl [.slice A 4 c, .slice none 0 0] _ (blk_cellsT HB10.out) Tryd.underlying73 rfl (by kernel_rfl) ?_)
            | (go_at_call 35; (with_reducible refine Calls.mono (made_leaf k cc A 4 c w3 (by have h1 := HROW.out; rw [← List.map_drop, ← List.map_take, ← HCD.out] at h1; exact h1.ext hx3) HCL.out (by omega) (by omega) HCC.out.1 (HT.out.ext (hx.trans hx3)) o HO.out) ?_); rintro e w4 ⟨rfl, hx4⟩)
            | (refine wpList_store_blk rfl 35 (.tmp 11) (.tmp 53) rfl rfl w4.heap.size (obC o).toArray rfl rfl _ _ (Blk.new w4 _ _) (by rw [List.size_toArray, obC_len HO3.out]; rfl) (by kernel_rfl) (fun v hv => obC_one o v (by simpa using hv)) ?_; intro w5 hb11 hg11; have hx45 : Ext w4 w5 := ((Ext.refl _).alloc _).grown_ hg11 (fun j e => by cases e; exact Nat.le_refl _)))
          have hxr5 := (hx3.trans hx4).trans hx45
          have hx5 := hx.trans hxr5
          have hB5 : B ≤ w5.heap.size := Nat.le_trans hBw hxr5.size
          have HO5 := Lib.hid (HOO.out.ext hxr5)
          have HK5 := Lib.hid (HOK.out.ext hxr5)
          obtain ⟨g11, hg11e⟩ : ∃ g, g = w4.heap.size := ⟨_, rfl⟩
          have hwg : wr.heap.size ≤ g11 := by rw [hg11e]; exact (hx3.trans hx4).size
          have HNE : Hid (∀ j, vo.ownBlock = some j → j ≠ g11) := Lib.hid (fun j hj => by have := HLT.out j hj; omega)
          obtain ⟨g10, hg10e⟩ : ∃ g, g = wr.heap.size := ⟨_, rfl⟩
          rw [← hg11e] at hb11 ⊢
          rw [← hg10e] at HB10 ⊢
          have HB11 := Lib.hid hb11
          have HB105 := Lib.hid ((HB10.out.ext hx4).ext hx45)
          have HROW5 := Lib.hid (HROW.out.ext hxr5)
          have c10 : w5.cell? ⟨g10, 0, none⟩ = some (.slice A 4 c) := by rw [HB105.out.cell]; rfl
          clear hb11 hg11 hg11e hg10e hx45 hx4 hx3 HB10 HROW HLT HCE HPN
          obtain ⟨x, hxa, r0, _⟩ := pr_row (ps := cc) (by have h1 := HROW5.out; rw [← List.map_drop, ← List.map_take, ← HCD.out] at h1; exact h1) (i := 0) (by rw [HCL.out]; exact hL0)
          subst hxa
          obtain ⟨key, hkey⟩ : ∃ s, s = (cc[0]'(by rw [HCL.out]; exact hL0)).1 := ⟨_, rfl⟩
          rw [← hkey] at r0
          have r0' : w5.cell? x = some (.string key) := r0
          have HKEY : Hid (headP cc = key) := Lib.hid (by rw [hkey]; cases cc with | nil => rw [List.length_nil] at HCL; have := HCL.out; omega | cons a t => rfl)
          have hL0i : (0 : Int) < (4 : Int) := by omega
          clear r0 hkey HROW5
          go_upto_region 19 with (fail)
          clear r0' HB105
          refine wp_region_opsC (JInv [68, 69, 70, 71, 72, 73, 74, 75, 76, 77, 78, 7, 8] _ [(0, 68, vo), (1, 69, .agg (obC o).toArray), (4, 72, vk), (5, 73, .string key), (6, 74, .pointer (some ⟨g11, 0, none⟩)), (7, 75, .agg (bv o.1).toArray), (8, 76, .agg (kdC (key, o.1)).toArray)] [70, 71, 77, 78, 7, 8] (fun f L u => JT w1 B B g11 o outs vo (key, o.1) ks vk (f 2) (f 3) (f 9) (f 10) (L.getD 0 undef) (L.getD 1 undef) (L.getD 2 undef) (L.getD 3 undef) u ∧ (f 11 = false → L.getD 4 undef = vo) ∧ (f 11 = true → L.getD 4 undef = L.getD 1 undef) ∧ (f 12 = false → L.getD 5 undef = vk) ∧ (f 12 = true → L.getD 5 undef = L.getD 3 undef))) (by kernel_rfl) (by kernel_rfl) (JInv.start (⟨JT.start hx5.drew hB5 hB5 (HB11.out.ext (Ext.refl _).drew) (HO5.out.ext (Ext.refl _).drew) (HK5.out.ext (Ext.refl _).drew), fun _ => rfl, fun h => (by cases h), fun _ => rfl, fun h => (by cases h)⟩)) ?_ ?_
          · refine ⟨?o0, ?o1, ?o2, ?o3, ?o4, ?o5, ?o6, ?o7, ?o8, ?o9, ?o10, ?o11, ?o12, trivial⟩
            case o0 =>
              intro f a u h hfi hp hq hcl
              have e7 := h.mem.2.1 (hq 11 _ rfl rfl)
              replace e7 : a.eval (.tmp 7) = _ := e7
              have q7 := e7
              simp only [Act.eval, Array.getD_eq_getD_getElem?] at q7
              exact h.yield rfl rfl 68 rfl (by change 68 < 124; decide) rfl _ rfl (fun L hL => hL) (by go_simp)
            case o1 =>
              intro f a u h hfi hp hq hcl
              exact h.yield rfl rfl 69 rfl (by change 69 < 124; decide) rfl _ rfl (fun L hL => hL) (run_of_sem rfl (by rw [(show a.eval (.tmp 11) = .pointer (some ⟨g11, 0, none⟩) from h.agree.eval (by decide))]; exact run_load_blk h.mem.1.box Tryd.underlying35 rfl (by rw [List.size_toArray, obC_len HO3.out]; kernel_rfl)))
            case o2 =>
              intro f a u h hfi hp hq hcl
              refine h.turn rfl rfl (some 70) rfl rfl ?_
              obtain ⟨hj, hr1, hr2, hr3, hr4⟩ := h.mem
              refine wp_val (exec_buildSlice rfl (by rw [arr1]; simp only [show a.eval (.tmp 69) = _ from (h.at_ 1 rfl (pre_of hp 1 rfl))])) (lit1_obj u o HO3.out) ?_
              have hL : ([70, 71, 77, 78, 7, 8].map fun s => (a.put (some 70) (.slice (some ⟨u.heap.size, 0, none⟩) 1 1)).eval (.tmp s)) = [.slice (some ⟨u.heap.size, 0, none⟩) 1 1, a.eval (.tmp 71), a.eval (.tmp 77), a.eval (.tmp 78), a.eval (.tmp 7), a.eval (.tmp 8)] := by simp only [List.map_cons, List.map_nil, eval_put_eq (show 70 < a.tmps.size by rw [h.agree.2.1]; change 70 < 124; decide), eval_put_ne (show (71 : Nat) ≠ 70 by decide), eval_put_ne (show (77 : Nat) ≠ 70 by decide), eval_put_ne (show (78 : Nat) ≠ 70 by decide), eval_put_ne (show (7 : Nat) ≠ 70 by decide), eval_put_ne (show (8 : Nat) ≠ 70 by decide)]
              refine ⟨_, rfl, ?_⟩
              rw [hL]
              exact ⟨hj.lit1' hfi (hq 3 _ rfl rfl) rfl rfl, hr1, hr2, hr3, hr4⟩
            case o3 =>
              intro f a u h hfi hp hq hcl
              refine h.turn rfl rfl (some 71) rfl rfl ?_
              obtain ⟨hj, hr1, hr2, hr3, hr4⟩ := h.mem
              obtain ⟨q, el, hqb⟩ := hj.lit1 (pre_of hp 2 rfl) hfi
              replace el : a.eval (.tmp 70) = _ := el
              refine wp_append u (.tmp 68) (.tmp 70) 28 rfl B 35 (.agg (bv idNone ++ [Value.string ByteArray.empty]).toArray) 34 56 Tryd.underlying28 obI (by decide) (by decide) vo outs.length _ (h.at_ 0 rfl (pre_of hp 0 rfl)) (hj.out0 hfi) (some ⟨q, 0, none⟩) 1 1 (obC o) el (obC_len HO3.out) hqb.cells (obC_one o) (by simp only [maxLen]; omega) (by omega) hj.hB ?_
              intro v' u' ho' hg' hf'
              have hL : ([70, 71, 77, 78, 7, 8].map fun s => (a.put (some 71) (v')).eval (.tmp s)) = [a.eval (.tmp 70), v', a.eval (.tmp 77), a.eval (.tmp 78), a.eval (.tmp 7), a.eval (.tmp 8)] := by simp only [List.map_cons, List.map_nil, eval_put_eq (show 71 < a.tmps.size by rw [h.agree.2.1]; change 71 < 124; decide), eval_put_ne (show (70 : Nat) ≠ 71 by decide), eval_put_ne (show (77 : Nat) ≠ 71 by decide), eval_put_ne (show (78 : Nat) ≠ 71 by decide), eval_put_ne (show (7 : Nat) ≠ 71 by decide), eval_put_ne (show (8 : Nat) ≠ 71 by decide)]
              refine ⟨v', rfl, ?_⟩
              rw [hL]
              exact ⟨hj.app1' (pre_of hp 2 rfl) hfi rfl rfl hwB HNE.out (ownO_snoc ho') hg', hr1, fun hf => (by have h1 := hq 11 _ rfl rfl; rw [show f 11 = true from hf] at h1; cases h1), hr3, hr4⟩
            case o4 =>
              intro f a u h hfi hp hq hcl
              have e8 := h.mem.2.2.2.1 (hq 12 _ rfl rfl)
              replace e8 : a.eval (.tmp 8) = _ := e8
              have q8 := e8
              simp only [Act.eval, Array.getD_eq_getD_getElem?] at q8
              exact h.yield rfl rfl 72 rfl (by change 72 < 124; decide) rfl _ rfl (fun L hL => hL) (by go_simp)
            case o5 =>
              intro f a u h hfi hp hq hcl
              have q13 : a.tmps[13]?.getD undef = .string key := h.agree.att (by decide)
              exact h.yield rfl rfl 73 rfl (by change 73 < 124; decide) rfl _ rfl (fun L hL => hL) (by go_simp)
            case o6 =>
              intro f a u h hfi hp hq hcl
              have q11 : a.tmps[11]?.getD undef = .pointer (some ⟨g11, 0, none⟩) := h.agree.att (by decide)
              exact h.yield rfl rfl 74 rfl (by change 74 < 124; decide) rfl _ rfl (fun L hL => hL) (by go_simp)
            case o7 =>
              intro f a u h hfi hp hq hcl
              exact h.yield rfl rfl 75 rfl (by change 75 < 124; decide) rfl _ rfl (fun L hL => hL) (run_of_sem rfl (by rw [h.at_ 4 rfl (pre_of hp 6 rfl)]; exact ld_id HO3.out (ob_cells h.mem.1.box HO3.out).1))
            case o8 =>
              intro f a u h hfi hp hq hcl
              exact h.stepV rfl rfl 76 rfl (by change 76 < 124; decide) rfl _ rfl (wp_val (s := Instr.build 77 #[(0, a.eval (.tmp 73)), (1, a.eval (.tmp 75))]) (exec_build rfl (by rw [arr2])) (by rw [h.at_ 3 rfl (pre_of hp 5 rfl), h.at_ 5 rfl (pre_of hp 7 rfl)]; exact build_kid _ _ _ HO3.out) ⟨rfl, h.mem⟩)
            case o9 =>
              intro f a u h hfi hp hq hcl
              refine h.turn rfl rfl (some 77) rfl rfl ?_
              obtain ⟨hj, hr1, hr2, hr3, hr4⟩ := h.mem
              refine wp_val (exec_buildSlice rfl (by rw [arr1]; simp only [show a.eval (.tmp 76) = _ from (h.at_ 6 rfl (pre_of hp 8 rfl))])) (lit1_kid u key o.1 HO3.out) ?_
              have hL : ([70, 71, 77, 78, 7, 8].map fun s => (a.put (some 77) (.slice (some ⟨u.heap.size, 0, none⟩) 1 1)).eval (.tmp s)) = [a.eval (.tmp 70), a.eval (.tmp 71), .slice (some ⟨u.heap.size, 0, none⟩) 1 1, a.eval (.tmp 78), a.eval (.tmp 7), a.eval (.tmp 8)] := by simp only [List.map_cons, List.map_nil, eval_put_eq (show 77 < a.tmps.size by rw [h.agree.2.1]; change 77 < 124; decide), eval_put_ne (show (70 : Nat) ≠ 77 by decide), eval_put_ne (show (71 : Nat) ≠ 77 by decide), eval_put_ne (show (78 : Nat) ≠ 77 by decide), eval_put_ne (show (7 : Nat) ≠ 77 by decide), eval_put_ne (show (8 : Nat) ≠ 77 by decide)]
              refine ⟨_, rfl, ?_⟩
              rw [hL]
              exact ⟨hj.lit2' hfi (hq 10 _ rfl rfl) rfl rfl, hr1, hr2, hr3, hr4⟩
            case o10 =>
              intro f a u h hfi hp hq hcl
              refine h.turn rfl rfl (some 78) rfl rfl ?_
              obtain ⟨hj, hr1, hr2, hr3, hr4⟩ := h.mem
              obtain ⟨q, el, hqb⟩ := hj.lit2 (pre_of hp 9 rfl) hfi
              replace el : a.eval (.tmp 77) = _ := el
              refine wp_append u (.tmp 72) (.tmp 77) 71 rfl B 77 (.agg (Value.string ByteArray.empty :: bv idNone).toArray) 34 56 Tryd.underlying71 kdI (by decide) (by decide) vk ks.length _ (h.at_ 2 rfl (pre_of hp 4 rfl)) (hj.row0 hfi) (some ⟨q, 0, none⟩) 1 1 (kdC (key, o.1)) el (kdC_len HO3.out) hqb.cells (kdC_one _) (by simp only [maxLen]; omega) (by omega) hj.hB ?_
              intro v' u' ho' hg' hf'
              have hL : ([70, 71, 77, 78, 7, 8].map fun s => (a.put (some 78) (v')).eval (.tmp s)) = [a.eval (.tmp 70), a.eval (.tmp 71), a.eval (.tmp 77), v', a.eval (.tmp 7), a.eval (.tmp 8)] := by simp only [List.map_cons, List.map_nil, eval_put_eq (show 78 < a.tmps.size by rw [h.agree.2.1]; change 78 < 124; decide), eval_put_ne (show (70 : Nat) ≠ 78 by decide), eval_put_ne (show (71 : Nat) ≠ 78 by decide), eval_put_ne (show (77 : Nat) ≠ 78 by decide), eval_put_ne (show (7 : Nat) ≠ 78 by decide), eval_put_ne (show (8 : Nat) ≠ 78 by decide)]
              refine ⟨v', rfl, ?_⟩
              rw [hL]
              exact ⟨hj.app2' (pre_of hp 9 rfl) hfi rfl rfl hwB (ownK_snoc ho') hg', hr1, hr2, hr3, fun hf => (by have h1 := hq 12 _ rfl rfl; rw [show f 12 = true from hf] at h1; cases h1)⟩
            case o11 =>
              intro f a u h hfi hp hq hcl
              refine h.turn rfl rfl (some 7) rfl rfl ?_
              obtain ⟨hj, hr1, hr2, hr3, hr4⟩ := h.mem
              refine wp_yield (v := a.eval (.tmp 71)) (w' := u) (by go_simp) ?_
              have hL : ([70, 71, 77, 78, 7, 8].map fun s => (a.put (some 7) (a.eval (.tmp 71))).eval (.tmp s)) = [a.eval (.tmp 70), a.eval (.tmp 71), a.eval (.tmp 77), a.eval (.tmp 78), a.eval (.tmp 71), a.eval (.tmp 8)] := by simp only [List.map_cons, List.map_nil, eval_put_eq (show 7 < a.tmps.size by rw [h.agree.2.1]; change 7 < 124; decide), eval_put_ne (show (70 : Nat) ≠ 7 by decide), eval_put_ne (show (71 : Nat) ≠ 7 by decide), eval_put_ne (show (77 : Nat) ≠ 7 by decide), eval_put_ne (show (78 : Nat) ≠ 7 by decide), eval_put_ne (show (8 : Nat) ≠ 7 by decide)]
              refine ⟨_, rfl, ?_⟩
              rw [hL]
              exact ⟨hj, fun hf => (by cases hf), fun _ => rfl, hr3, hr4⟩
            case o12 =>
              intro f a u h hfi hp hq hcl
              refine h.turn rfl rfl (some 8) rfl rfl ?_
              obtain ⟨hj, hr1, hr2, hr3, hr4⟩ := h.mem
              refine wp_yield (v := a.eval (.tmp 78)) (w' := u) (by go_simp) ?_
              have hL : ([70, 71, 77, 78, 7, 8].map fun s => (a.put (some 8) (a.eval (.tmp 78))).eval (.tmp s)) = [a.eval (.tmp 70), a.eval (.tmp 71), a.eval (.tmp 77), a.eval (.tmp 78), a.eval (.tmp 7), a.eval (.tmp 78)] := by simp only [List.map_cons, List.map_nil, eval_put_eq (show 8 < a.tmps.size by rw [h.agree.2.1]; change 8 < 124; decide), eval_put_ne (show (70 : Nat) ≠ 8 by decide), eval_put_ne (show (71 : Nat) ≠ 8 by decide), eval_put_ne (show (77 : Nat) ≠ 8 by decide), eval_put_ne (show (78 : Nat) ≠ 8 by decide), eval_put_ne (show (7 : Nat) ≠ 8 by decide)]
              refine ⟨_, rfl, ?_⟩
              rw [hL]
              exact ⟨hj, hr1, hr2, fun hf => (by cases hf), fun _ => rfl⟩
          · intro f a u h hall hfar
            have hag := h.agree.out
            have hm := h.mem
            simp only [List.foldl_cons, List.foldl_nil, Act.put, List.setIfInBounds_toArray, List.set_cons_zero, List.set_cons_succ] at hag
            obtain ⟨hj, hr1, hr2, hr3, hr4⟩ := hm
            rw [hall 2 (by decide), hall 3 (by decide), hall 9 (by decide), hall 10 (by decide)] at hj
            have e7 := hr2 (hall 11 (by decide))
            have e8 := hr4 (hall 12 (by decide))
            replace e7 : a.eval (.tmp 7) = a.eval (.tmp 71) := e7
            replace e8 : a.eval (.tmp 8) = a.eval (.tmp 78) := e8
            have ho2 : OwnO B u (a.eval (.tmp 71)) (outs ++ [o]) := hj.out1 rfl
            have hk2 : OwnK B u (a.eval (.tmp 78)) (ks ++ [(key, o.1)]) := hj.row1 rfl
            have hxu := hj.ext
            have hBu := hj.hB
            rw [← e7] at ho2
            rw [← e8] at hk2
            clear hj hr1 hr2 hr3 hr4 e7 e8
            obtain ⟨vo2, hvo2⟩ : ∃ v, a.eval (.tmp 7) = v := ⟨_, rfl⟩
            obtain ⟨vk2, hvk2⟩ : ∃ v, a.eval (.tmp 8) = v := ⟨_, rfl⟩
            rw [hvo2] at hag ho2
            rw [hvk2] at hag hk2
            clear hvo2 hvk2
            generalize a.eval (.tmp 68) = y68 at hag
            generalize a.eval (.tmp 69) = y69 at hag
            generalize a.eval (.tmp 70) = y70 at hag
            generalize a.eval (.tmp 71) = y71 at hag
            generalize a.eval (.tmp 72) = y72 at hag
            generalize a.eval (.tmp 73) = y73 at hag
            generalize a.eval (.tmp 74) = y74 at hag
            generalize a.eval (.tmp 75) = y75 at hag
            generalize a.eval (.tmp 76) = y76 at hag
            generalize a.eval (.tmp 77) = y77 at hag
            generalize a.eval (.tmp 78) = y78 at hag
            clear h hall hfar
            subst hag
            have HO4 := Lib.hid ho2
            have HK4 := Lib.hid hk2
            clear ho2 hk2
            have HST2 : Hid (LeafSt k ps n (0 + 4) (outs ++ [o]) (ks ++ [(key, o.1)])) := Lib.hid (leaf_step HST.out HN.out (by omega) HCD.out HO.out (by rw [HKEY.out]))
            clear HST HO HO3 c10
            go_wp2
            go_roundw
            case rel => exact ⟨0 + 4, outs ++ [o], ks ++ [(key, o.1)], by go_num, by omega, HO4, HK4, HST2, hxu, hBu⟩
            case measure => simp [intOf] <;> omega
  
        · by_cases hL0 : 0 < n
          · have h4 : ¬ (4 : Int) ≤ (n : Int) := by omega
            have h4' : (n : Int) < 4 := by omega
            obtain ⟨cc, hcc⟩ : ∃ x, x = (ps.drop 0).take 4 := ⟨_, rfl⟩
            have hL : cc.length = n := by rw [hcc, List.length_take, List.length_drop, HN.out]; omega
            have hcells : Cells wr A (ps.map prC).flatten := Row.cells (HR.out.ext hx) (by decide)
            have HCE := Lib.hid hcells
            have HPN : Hid ((ps.map prC).flatten.length = n * 2) := Lib.hid (by rw [Row.len HR.out, List.length_map, HN.out])
            have HCC : Hid (PrsOk cc ∧ cc.length ≤ 4) := Lib.hid (by rw [hcc]; exact ⟨(HP.out.drop _).take _, by rw [List.length_take]; omega⟩)
            have HCL := Lib.hid hL
            have HCD := Lib.hid hcc
            have hL4 : n ≤ 4 := by omega
            obtain ⟨o, ho⟩ : ∃ o, o = objT k (leafT cc) := ⟨_, rfl⟩
            have HO := Lib.hid ho
            have HO3 : Hid (o.1.length = 33) := Lib.hid (by rw [ho]; exact (obj_id k hk0 _).1)
            have HLT : Hid (∀ j, vo.ownBlock = some j → j < wr.heap.size) := Lib.hid (fun j hj => (own_lt HOO.out hj).2)
            clear hcells hL hcc ho
            have HROW := Lib.hid (Cells.sub (sz := 2) 0 4 (show Cells wr A ((ps.map prC).flatten.drop (0 * 2)) from by rw [Nat.zero_mul, List.drop_zero]; exact HCE.out) (fun cs hcs => by obtain ⟨p, _, rfl⟩ := List.mem_map.1 hcs; rfl) (by decide))
            go_upto_region 14 with (first
              | (refine wpList_store_blk rfl 73 (.tmp 10) (.tmp 48) rfl rfl wr.heap.size #[.slice A n c, .slice none 0 0] rfl rfl _ _ (Blk.new wr _ _) rfl (by kernel_rfl) (by simp [Value.oneCell']) ?_; intro w3 hb10 hg10; have hx3 : Ext wr w3 := ((Ext.refl _).alloc _).grown_ hg10 (fun j e => by cases e; exact Nat.le_refl _); have HB10 := Lib.hid hb10; clear hb10 hg10)
              | (refine wpList_load_row_ rfl 73 (.tmp 10) rfl ⟨wr.heap.size, 0, none⟩ rfl [.slice A n c, .slice none 0 0] _ (blk_cellsT HB10.out) Tryd.underlying73 rfl (by kernel_rfl) ?_)
              | (go_at_call 35; (with_reducible refine Calls.mono (made_leaf k cc A n c w3 (by have h1 := HROW.out; rw [← List.map_drop, ← List.map_take, ← HCD.out] at h1; exact h1.ext hx3) HCL.out (by omega) (by omega) HCC.out.1 (HT.out.ext (hx.trans hx3)) o HO.out) ?_); rintro e w4 ⟨rfl, hx4⟩)
              | (refine wpList_store_blk rfl 35 (.tmp 11) (.tmp 53) rfl rfl w4.heap.size (obC o).toArray rfl rfl _ _ (Blk.new w4 _ _) (by rw [List.size_toArray, obC_len HO3.out]; rfl) (by kernel_rfl) (fun v hv => obC_one o v (by simpa using hv)) ?_; intro w5 hb11 hg11; have hx45 : Ext w4 w5 := ((Ext.refl _).alloc _).grown_ hg11 (fun j e => by cases e; exact Nat.le_refl _)))
            have hxr5 := (hx3.trans hx4).trans hx45
            have hx5 := hx.trans hxr5
            have hB5 : B ≤ w5.heap.size := Nat.le_trans hBw hxr5.size
            have HO5 := Lib.hid (HOO.out.ext hxr5)
            have HK5 := Lib.hid (HOK.out.ext hxr5)
            obtain ⟨g11, hg11e⟩ : ∃ g, g = w4.heap.size := ⟨_, rfl⟩
            have hwg : wr.heap.size ≤ g11 := by rw [hg11e]; exact (hx3.trans hx4).size
            have HNE : Hid (∀ j, vo.ownBlock = some j → j ≠ g11) := Lib.hid (fun j hj => by have := HLT.out j hj; omega)
            obtain ⟨g10, hg10e⟩ : ∃ g, g = wr.heap.size := ⟨_, rfl⟩
            rw [← hg11e] at hb11 ⊢
            rw [← hg10e] at HB10 ⊢
            have HB11 := Lib.hid hb11
            have HB105 := Lib.hid ((HB10.out.ext hx4).ext hx45)
            have HROW5 := Lib.hid (HROW.out.ext hxr5)
            have c10 : w5.cell? ⟨g10, 0, none⟩ = some (.slice A n c) := by rw [HB105.out.cell]; rfl
            clear hb11 hg11 hg11e hg10e hx45 hx4 hx3 HB10 HROW HLT HCE HPN
            obtain ⟨x, hxa, r0, _⟩ := pr_row (ps := cc) (by have h1 := HROW5.out; rw [← List.map_drop, ← List.map_take, ← HCD.out] at h1; exact h1) (i := 0) (by rw [HCL.out]; exact hL0)
            subst hxa
            obtain ⟨key, hkey⟩ : ∃ s, s = (cc[0]'(by rw [HCL.out]; exact hL0)).1 := ⟨_, rfl⟩
            rw [← hkey] at r0
            have r0' : w5.cell? x = some (.string key) := r0
            have HKEY : Hid (headP cc = key) := Lib.hid (by rw [hkey]; cases cc with | nil => rw [List.length_nil] at HCL; have := HCL.out; omega | cons a t => rfl)
            have hL0i : (0 : Int) < (n : Int) := by omega
            clear r0 hkey HROW5
            go_upto_region 19 with (fail)
            clear r0' HB105
            refine wp_region_opsC (JInv [68, 69, 70, 71, 72, 73, 74, 75, 76, 77, 78, 7, 8] _ [(0, 68, vo), (1, 69, .agg (obC o).toArray), (4, 72, vk), (5, 73, .string key), (6, 74, .pointer (some ⟨g11, 0, none⟩)), (7, 75, .agg (bv o.1).toArray), (8, 76, .agg (kdC (key, o.1)).toArray)] [70, 71, 77, 78, 7, 8] (fun f L u => JT w1 B B g11 o outs vo (key, o.1) ks vk (f 2) (f 3) (f 9) (f 10) (L.getD 0 undef) (L.getD 1 undef) (L.getD 2 undef) (L.getD 3 undef) u ∧ (f 11 = false → L.getD 4 undef = vo) ∧ (f 11 = true → L.getD 4 undef = L.getD 1 undef) ∧ (f 12 = false → L.getD 5 undef = vk) ∧ (f 12 = true → L.getD 5 undef = L.getD 3 undef))) (by kernel_rfl) (by kernel_rfl) (JInv.start (⟨JT.start hx5.drew hB5 hB5 (HB11.out.ext (Ext.refl _).drew) (HO5.out.ext (Ext.refl _).drew) (HK5.out.ext (Ext.refl _).drew), fun _ => rfl, fun h => (by cases h), fun _ => rfl, fun h => (by cases h)⟩)) ?_ ?_
            · refine ⟨?o0, ?o1, ?o2, ?o3, ?o4, ?o5, ?o6, ?o7, ?o8, ?o9, ?o10, ?o11, ?o12, trivial⟩
              case o0 =>
                intro f a u h hfi hp hq hcl
                have e7 := h.mem.2.1 (hq 11 _ rfl rfl)
                replace e7 : a.eval (.tmp 7) = _ := e7
                have q7 := e7
                simp only [Act.eval, Array.getD_eq_getD_getElem?] at q7
                exact h.yield rfl rfl 68 rfl (by change 68 < 124; decide) rfl _ rfl (fun L hL => hL) (by go_simp)
              case o1 =>
                intro f a u h hfi hp hq hcl
                exact h.yield rfl rfl 69 rfl (by change 69 < 124; decide) rfl _ rfl (fun L hL => hL) (run_of_sem rfl (by rw [(show a.eval (.tmp 11) = .pointer (some ⟨g11, 0, none⟩) from h.agree.eval (by decide))]; exact run_load_blk h.mem.1.box Tryd.underlying35 rfl (by rw [List.size_toArray, obC_len HO3.out]; kernel_rfl)))
              case o2 =>
                intro f a u h hfi hp hq hcl
                refine h.turn rfl rfl (some 70) rfl rfl ?_
                obtain ⟨hj, hr1, hr2, hr3, hr4⟩ := h.mem
                refine wp_val (exec_buildSlice rfl (by rw [arr1]; simp only [show a.eval (.tmp 69) = _ from (h.at_ 1 rfl (pre_of hp 1 rfl))])) (lit1_obj u o HO3.out) ?_
                have hL : ([70, 71, 77, 78, 7, 8].map fun s => (a.put (some 70) (.slice (some ⟨u.heap.size, 0, none⟩) 1 1)).eval (.tmp s)) = [.slice (some ⟨u.heap.size, 0, none⟩) 1 1, a.eval (.tmp 71), a.eval (.tmp 77), a.eval (.tmp 78), a.eval (.tmp 7), a.eval (.tmp 8)] := by simp only [List.map_cons, List.map_nil, eval_put_eq (show 70 < a.tmps.size by rw [h.agree.2.1]; change 70 < 124; decide), eval_put_ne (show (71 : Nat) ≠ 70 by decide), eval_put_ne (show (77 : Nat) ≠ 70 by decide), eval_put_ne (show (78 : Nat) ≠ 70 by decide), eval_put_ne (show (7 : Nat) ≠ 70 by decide), eval_put_ne (show (8 : Nat) ≠ 70 by decide)]
                refine ⟨_, rfl, ?_⟩
                rw [hL]
                exact ⟨hj.lit1' hfi (hq 3 _ rfl rfl) rfl rfl, hr1, hr2, hr3, hr4⟩
              case o3 =>
                intro f a u h hfi hp hq hcl
                refine h.turn rfl rfl (some 71) rfl rfl ?_
                obtain ⟨hj, hr1, hr2, hr3, hr4⟩ := h.mem
                obtain ⟨q, el, hqb⟩ := hj.lit1 (pre_of hp 2 rfl) hfi
                replace el : a.eval (.tmp 70) = _ := el
                refine wp_append u (.tmp 68) (.tmp 70) 28 rfl B 35 (.agg (bv idNone ++ [Value.string ByteArray.empty]).toArray) 34 56 Tryd.underlying28 obI (by decide) (by decide) vo outs.length _ (h.at_ 0 rfl (pre_of hp 0 rfl)) (hj.out0 hfi) (some ⟨q, 0, none⟩) 1 1 (obC o) el (obC_len HO3.out) hqb.cells (obC_one o) (by simp only [maxLen]; omega) (by omega) hj.hB ?_
                intro v' u' ho' hg' hf'
                have hL : ([70, 71, 77, 78, 7, 8].map fun s => (a.put (some 71) (v')).eval (.tmp s)) = [a.eval (.tmp 70), v', a.eval (.tmp 77), a.eval (.tmp 78), a.eval (.tmp 7), a.eval (.tmp 8)] := by simp only [List.map_cons, List.map_nil, eval_put_eq (show 71 < a.tmps.size by rw [h.agree.2.1]; change 71 < 124; decide), eval_put_ne (show (70 : Nat) ≠ 71 by decide), eval_put_ne (show (77 : Nat) ≠ 71 by decide), eval_put_ne (show (78 : Nat) ≠ 71 by decide), eval_put_ne (show (7 : Nat) ≠ 71 by decide), eval_put_ne (show (8 : Nat) ≠ 71 by decide)]
                refine ⟨v', rfl, ?_⟩
                rw [hL]
                exact ⟨hj.app1' (pre_of hp 2 rfl) hfi rfl rfl hwB HNE.out (ownO_snoc ho') hg', hr1, fun hf => (by have h1 := hq 11 _ rfl rfl; rw [show f 11 = true from hf] at h1; cases h1), hr3, hr4⟩
              case o4 =>
                intro f a u h hfi hp hq hcl
                have e8 := h.mem.2.2.2.1 (hq 12 _ rfl rfl)
                replace e8 : a.eval (.tmp 8) = _ := e8
                have q8 := e8
                simp only [Act.eval, Array.getD_eq_getD_getElem?] at q8
                exact h.yield rfl rfl 72 rfl (by change 72 < 124; decide) rfl _ rfl (fun L hL => hL) (by go_simp)
              case o5 =>
                intro f a u h hfi hp hq hcl
                have q13 : a.tmps[13]?.getD undef = .string key := h.agree.att (by decide)
                exact h.yield rfl rfl 73 rfl (by change 73 < 124; decide) rfl _ rfl (fun L hL => hL) (by go_simp)
              case o6 =>
                intro f a u h hfi hp hq hcl
                have q11 : a.tmps[11]?.getD undef = .pointer (some ⟨g11, 0, none⟩) := h.agree.att (by decide)
                exact h.yield rfl rfl 74 rfl (by change 74 < 124; decide) rfl _ rfl (fun L hL => hL) (by go_simp)
              case o7 =>
                intro f a u h hfi hp hq hcl
                exact h.yield rfl rfl 75 rfl (by change 75 < 124; decide) rfl _ rfl (fun L hL => hL) (run_of_sem rfl (by rw [h.at_ 4 rfl (pre_of hp 6 rfl)]; exact ld_id HO3.out (ob_cells h.mem.1.box HO3.out).1))
              case o8 =>
                intro f a u h hfi hp hq hcl
                exact h.stepV rfl rfl 76 rfl (by change 76 < 124; decide) rfl _ rfl (wp_val (s := Instr.build 77 #[(0, a.eval (.tmp 73)), (1, a.eval (.tmp 75))]) (exec_build rfl (by rw [arr2])) (by rw [h.at_ 3 rfl (pre_of hp 5 rfl), h.at_ 5 rfl (pre_of hp 7 rfl)]; exact build_kid _ _ _ HO3.out) ⟨rfl, h.mem⟩)
              case o9 =>
                intro f a u h hfi hp hq hcl
                refine h.turn rfl rfl (some 77) rfl rfl ?_
                obtain ⟨hj, hr1, hr2, hr3, hr4⟩ := h.mem
                refine wp_val (exec_buildSlice rfl (by rw [arr1]; simp only [show a.eval (.tmp 76) = _ from (h.at_ 6 rfl (pre_of hp 8 rfl))])) (lit1_kid u key o.1 HO3.out) ?_
                have hL : ([70, 71, 77, 78, 7, 8].map fun s => (a.put (some 77) (.slice (some ⟨u.heap.size, 0, none⟩) 1 1)).eval (.tmp s)) = [a.eval (.tmp 70), a.eval (.tmp 71), .slice (some ⟨u.heap.size, 0, none⟩) 1 1, a.eval (.tmp 78), a.eval (.tmp 7), a.eval (.tmp 8)] := by simp only [List.map_cons, List.map_nil, eval_put_eq (show 77 < a.tmps.size by rw [h.agree.2.1]; change 77 < 124; decide), eval_put_ne (show (70 : Nat) ≠ 77 by decide), eval_put_ne (show (71 : Nat) ≠ 77 by decide), eval_put_ne (show (78 : Nat) ≠ 77 by decide), eval_put_ne (show (7 : Nat) ≠ 77 by decide), eval_put_ne (show (8 : Nat) ≠ 77 by decide)]
                refine ⟨_, rfl, ?_⟩
                rw [hL]
                exact ⟨hj.lit2' hfi (hq 10 _ rfl rfl) rfl rfl, hr1, hr2, hr3, hr4⟩
              case o10 =>
                intro f a u h hfi hp hq hcl
                refine h.turn rfl rfl (some 78) rfl rfl ?_
                obtain ⟨hj, hr1, hr2, hr3, hr4⟩ := h.mem
                obtain ⟨q, el, hqb⟩ := hj.lit2 (pre_of hp 9 rfl) hfi
                replace el : a.eval (.tmp 77) = _ := el
                refine wp_append u (.tmp 72) (.tmp 77) 71 rfl B 77 (.agg (Value.string ByteArray.empty :: bv idNone).toArray) 34 56 Tryd.underlying71 kdI (by decide) (by decide) vk ks.length _ (h.at_ 2 rfl (pre_of hp 4 rfl)) (hj.row0 hfi) (some ⟨q, 0, none⟩) 1 1 (kdC (key, o.1)) el (kdC_len HO3.out) hqb.cells (kdC_one _) (by simp only [maxLen]; omega) (by omega) hj.hB ?_
                intro v' u' ho' hg' hf'
                have hL : ([70, 71, 77, 78, 7, 8].map fun s => (a.put (some 78) (v')).eval (.tmp s)) = [a.eval (.tmp 70), a.eval (.tmp 71), a.eval (.tmp 77), v', a.eval (.tmp 7), a.eval (.tmp 8)] := by simp only [List.map_cons, List.map_nil, eval_put_eq (show 78 < a.tmps.size by rw [h.agree.2.1]; change 78 < 124; decide), eval_put_ne (show (70 : Nat) ≠ 78 by decide), eval_put_ne (show (71 : Nat) ≠ 78 by decide), eval_put_ne (show (77 : Nat) ≠ 78 by decide), eval_put_ne (show (7 : Nat) ≠ 78 by decide), eval_put_ne (show (8 : Nat) ≠ 78 by decide)]
                refine ⟨v', rfl, ?_⟩
                rw [hL]
                exact ⟨hj.app2' (pre_of hp 9 rfl) hfi rfl rfl hwB (ownK_snoc ho') hg', hr1, hr2, hr3, fun hf => (by have h1 := hq 12 _ rfl rfl; rw [show f 12 = true from hf] at h1; cases h1)⟩
              case o11 =>
                intro f a u h hfi hp hq hcl
                refine h.turn rfl rfl (some 7) rfl rfl ?_
                obtain ⟨hj, hr1, hr2, hr3, hr4⟩ := h.mem
                refine wp_yield (v := a.eval (.tmp 71)) (w' := u) (by go_simp) ?_
                have hL : ([70, 71, 77, 78, 7, 8].map fun s => (a.put (some 7) (a.eval (.tmp 71))).eval (.tmp s)) = [a.eval (.tmp 70), a.eval (.tmp 71), a.eval (.tmp 77), a.eval (.tmp 78), a.eval (.tmp 71), a.eval (.tmp 8)] := by simp only [List.map_cons, List.map_nil, eval_put_eq (show 7 < a.tmps.size by rw [h.agree.2.1]; change 7 < 124; decide), eval_put_ne (show (70 : Nat) ≠ 7 by decide), eval_put_ne (show (71 : Nat) ≠ 7 by decide), eval_put_ne (show (77 : Nat) ≠ 7 by decide), eval_put_ne (show (78 : Nat) ≠ 7 by decide), eval_put_ne (show (8 : Nat) ≠ 7 by decide)]
                refine ⟨_, rfl, ?_⟩
                rw [hL]
                exact ⟨hj, fun hf => (by cases hf), fun _ => rfl, hr3, hr4⟩
              case o12 =>
                intro f a u h hfi hp hq hcl
                refine h.turn rfl rfl (some 8) rfl rfl ?_
                obtain ⟨hj, hr1, hr2, hr3, hr4⟩ := h.mem
                refine wp_yield (v := a.eval (.tmp 78)) (w' := u) (by go_simp) ?_
                have hL : ([70, 71, 77, 78, 7, 8].map fun s => (a.put (some 8) (a.eval (.tmp 78))).eval (.tmp s)) = [a.eval (.tmp 70), a.eval (.tmp 71), a.eval (.tmp 77), a.eval (.tmp 78), a.eval (.tmp 7), a.eval (.tmp 78)] := by simp only [List.map_cons, List.map_nil, eval_put_eq (show 8 < a.tmps.size by rw [h.agree.2.1]; change 8 < 124; decide), eval_put_ne (show (70 : Nat) ≠ 8 by decide), eval_put_ne (show (71 : Nat) ≠ 8 by decide), eval_put_ne (show (77 : Nat) ≠ 8 by decide), eval_put_ne (show (78 : Nat) ≠ 8 by decide), eval_put_ne (show (7 : Nat) ≠ 8 by decide)]
                refine ⟨_, rfl, ?_⟩
                rw [hL]
                exact ⟨hj, hr1, hr2, fun hf => (by cases hf), fun _ => rfl⟩
            · intro f a u h hall hfar
              have hag := h.agree.out
              have hm := h.mem
              simp only [List.foldl_cons, List.foldl_nil, Act.put, List.setIfInBounds_toArray, List.set_cons_zero, List.set_cons_succ] at hag
              obtain ⟨hj, hr1, hr2, hr3, hr4⟩ := hm
              rw [hall 2 (by decide), hall 3 (by decide), hall 9 (by decide), hall 10 (by decide)] at hj
              have e7 := hr2 (hall 11 (by decide))
              have e8 := hr4 (hall 12 (by decide))
              replace e7 : a.eval (.tmp 7) = a.eval (.tmp 71) := e7
              replace e8 : a.eval (.tmp 8) = a.eval (.tmp 78) := e8
              have ho2 : OwnO B u (a.eval (.tmp 71)) (outs ++ [o]) := hj.out1 rfl
              have hk2 : OwnK B u (a.eval (.tmp 78)) (ks ++ [(key, o.1)]) := hj.row1 rfl
              have hxu := hj.ext
              have hBu := hj.hB
              rw [← e7] at ho2
              rw [← e8] at hk2
              clear hj hr1 hr2 hr3 hr4 e7 e8
              obtain ⟨vo2, hvo2⟩ : ∃ v, a.eval (.tmp 7) = v := ⟨_, rfl⟩
              obtain ⟨vk2, hvk2⟩ : ∃ v, a.eval (.tmp 8) = v := ⟨_, rfl⟩
              rw [hvo2] at hag ho2
              rw [hvk2] at hag hk2
              clear hvo2 hvk2
              generalize a.eval (.tmp 68) = y68 at hag
              generalize a.eval (.tmp 69) = y69 at hag
              generalize a.eval (.tmp 70) = y70 at hag
              generalize a.eval (.tmp 71) = y71 at hag
              generalize a.eval (.tmp 72) = y72 at hag
              generalize a.eval (.tmp 73) = y73 at hag
              generalize a.eval (.tmp 74) = y74 at hag
              generalize a.eval (.tmp 75) = y75 at hag
              generalize a.eval (.tmp 76) = y76 at hag
              generalize a.eval (.tmp 77) = y77 at hag
              generalize a.eval (.tmp 78) = y78 at hag
              clear h hall hfar
              subst hag
              have HO4 := Lib.hid ho2
              have HK4 := Lib.hid hk2
              clear ho2 hk2
              have HST2 : Hid (LeafSt k ps n (0 + 4) (outs ++ [o]) (ks ++ [(key, o.1)])) := Lib.hid (leaf_step HST.out HN.out (by omega) HCD.out HO.out (by rw [HKEY.out]))
              clear HST HO HO3 c10
              go_wp2
              go_roundw
              case rel => exact ⟨0 + 4, outs ++ [o], ks ++ [(key, o.1)], by go_num, by omega, HO4, HK4, HST2, hxu, hBu⟩
              case measure => simp [intOf] <;> omega
  
          · have hL0i : ¬ (0 : Int) < (n : Int) := by omega
            have h4 : ¬ (4 : Int) ≤ (n : Int) := by omega
            have h4' : (n : Int) < 4 := by omega
            obtain ⟨cc, hcc⟩ : ∃ x, x = (ps.drop 0).take 4 := ⟨_, rfl⟩
            have hL : cc.length = n := by rw [hcc, List.length_take, List.length_drop, HN.out]; omega
            have hcells : Cells wr A (ps.map prC).flatten := Row.cells (HR.out.ext hx) (by decide)
            have HCE := Lib.hid hcells
            have HPN : Hid ((ps.map prC).flatten.length = n * 2) := Lib.hid (by rw [Row.len HR.out, List.length_map, HN.out])
            have HCC : Hid (PrsOk cc ∧ cc.length ≤ 4) := Lib.hid (by rw [hcc]; exact ⟨(HP.out.drop _).take _, by rw [List.length_take]; omega⟩)
            have HCL := Lib.hid hL
            have HCD := Lib.hid hcc
            have hL4 : n ≤ 4 := by omega
            obtain ⟨o, ho⟩ : ∃ o, o = objT k (leafT cc) := ⟨_, rfl⟩
            have HO := Lib.hid ho
            have HO3 : Hid (o.1.length = 33) := Lib.hid (by rw [ho]; exact (obj_id k hk0 _).1)
            have HLT : Hid (∀ j, vo.ownBlock = some j → j < wr.heap.size) := Lib.hid (fun j hj => (own_lt HOO.out hj).2)
            clear hcells hL hcc ho
            have HROW := Lib.hid (Cells.sub (sz := 2) 0 4 (show Cells wr A ((ps.map prC).flatten.drop (0 * 2)) from by rw [Nat.zero_mul, List.drop_zero]; exact HCE.out) (fun cs hcs => by obtain ⟨p, _, rfl⟩ := List.mem_map.1 hcs; rfl) (by decide))
            go_upto_region 14 with (first
              | (refine wpList_store_blk rfl 73 (.tmp 10) (.tmp 48) rfl rfl wr.heap.size #[.slice A n c, .slice none 0 0] rfl rfl _ _ (Blk.new wr _ _) rfl (by kernel_rfl) (by simp [Value.oneCell']) ?_; intro w3 hb10 hg10; have hx3 : Ext wr w3 := ((Ext.refl _).alloc _).grown_ hg10 (fun j e => by cases e; exact Nat.le_refl _); have HB10 := Lib.hid hb10; clear hb10 hg10)
              | (refine wpList_load_row_ rfl 73 (.tmp 10) rfl ⟨wr.heap.size, 0, none⟩ rfl [.slice A n c, .slice none 0 0] _ (blk_cellsT HB10.out) Tryd.underlying73 rfl (by kernel_rfl) ?_)
              | (go_at_call 35; (with_reducible refine Calls.mono (made_leaf k cc A n c w3 (by have h1 := HROW.out; rw [← List.map_drop, ← List.map_take, ← HCD.out] at h1; exact h1.ext hx3) HCL.out (by omega) (by omega) HCC.out.1 (HT.out.ext (hx.trans hx3)) o HO.out) ?_); rintro e w4 ⟨rfl, hx4⟩)
              | (refine wpList_store_blk rfl 35 (.tmp 11) (.tmp 53) rfl rfl w4.heap.size (obC o).toArray rfl rfl _ _ (Blk.new w4 _ _) (by rw [List.size_toArray, obC_len HO3.out]; rfl) (by kernel_rfl) (fun v hv => obC_one o v (by simpa using hv)) ?_; intro w5 hb11 hg11; have hx45 : Ext w4 w5 := ((Ext.refl _).alloc _).grown_ hg11 (fun j e => by cases e; exact Nat.le_refl _)))
            have hxr5 := (hx3.trans hx4).trans hx45
            have hx5 := hx.trans hxr5
            have hB5 : B ≤ w5.heap.size := Nat.le_trans hBw hxr5.size
            have HO5 := Lib.hid (HOO.out.ext hxr5)
            have HK5 := Lib.hid (HOK.out.ext hxr5)
            obtain ⟨g11, hg11e⟩ : ∃ g, g = w4.heap.size := ⟨_, rfl⟩
            have hwg : wr.heap.size ≤ g11 := by rw [hg11e]; exact (hx3.trans hx4).size
            have HNE : Hid (∀ j, vo.ownBlock = some j → j ≠ g11) := Lib.hid (fun j hj => by have := HLT.out j hj; omega)
            obtain ⟨g10, hg10e⟩ : ∃ g, g = wr.heap.size := ⟨_, rfl⟩
            rw [← hg11e] at hb11 ⊢
            rw [← hg10e] at HB10 ⊢
            have HB11 := Lib.hid hb11
            have HB105 := Lib.hid ((HB10.out.ext hx4).ext hx45)
            have HROW5 := Lib.hid (HROW.out.ext hxr5)
            have c10 : w5.cell? ⟨g10, 0, none⟩ = some (.slice A n c) := by rw [HB105.out.cell]; rfl
            clear hb11 hg11 hg11e hg10e hx45 hx4 hx3 HB10 HROW HLT HCE HPN
            have HKEY : Hid (headP cc = ByteArray.empty) := Lib.hid (by have h9 : cc = [] := List.eq_nil_of_length_eq_zero (by have := HCL.out; omega); rw [h9]; rfl)
            clear HROW5
            go_upto_region 19 with (fail)
            clear HB105
            refine wp_region_opsC (JInv [68, 69, 70, 71, 72, 73, 74, 75, 76, 77, 78, 7, 8] _ [(0, 68, vo), (1, 69, .agg (obC o).toArray), (4, 72, vk), (5, 73, .string ByteArray.empty), (6, 74, .pointer (some ⟨g11, 0, none⟩)), (7, 75, .agg (bv o.1).toArray), (8, 76, .agg (kdC (ByteArray.empty, o.1)).toArray)] [70, 71, 77, 78, 7, 8] (fun f L u => JT w1 B B g11 o outs vo (ByteArray.empty, o.1) ks vk (f 2) (f 3) (f 9) (f 10) (L.getD 0 undef) (L.getD 1 undef) (L.getD 2 undef) (L.getD 3 undef) u ∧ (f 11 = false → L.getD 4 undef = vo) ∧ (f 11 = true → L.getD 4 undef = L.getD 1 undef) ∧ (f 12 = false → L.getD 5 undef = vk) ∧ (f 12 = true → L.getD 5 undef = L.getD 3 undef))) (by kernel_rfl) (by kernel_rfl) (JInv.start (⟨JT.start hx5.drew hB5 hB5 (HB11.out.ext (Ext.refl _).drew) (HO5.out.ext (Ext.refl _).drew) (HK5.out.ext (Ext.refl _).drew), fun _ => rfl, fun h => (by cases h), fun _ => rfl, fun h => (by cases h)⟩)) ?_ ?_
            · refine ⟨?o0, ?o1, ?o2, ?o3, ?o4, ?o5, ?o6, ?o7, ?o8, ?o9, ?o10, ?o11, ?o12, trivial⟩
              case o0 =>
                intro f a u h hfi hp hq hcl
                have e7 := h.mem.2.1 (hq 11 _ rfl rfl)
                replace e7 : a.eval (.tmp 7) = _ := e7
                have q7 := e7
                simp only [Act.eval, Array.getD_eq_getD_getElem?] at q7
                exact h.yield rfl rfl 68 rfl (by change 68 < 124; decide) rfl _ rfl (fun L hL => hL) (by go_simp)
              case o1 =>
                intro f a u h hfi hp hq hcl
                exact h.yield rfl rfl 69 rfl (by change 69 < 124; decide) rfl _ rfl (fun L hL => hL) (run_of_sem rfl (by rw [(show a.eval (.tmp 11) = .pointer (some ⟨g11, 0, none⟩) from h.agree.eval (by decide))]; exact run_load_blk h.mem.1.box Tryd.underlying35 rfl (by rw [List.size_toArray, obC_len HO3.out]; kernel_rfl)))
              case o2 =>
                intro f a u h hfi hp hq hcl
                refine h.turn rfl rfl (some 70) rfl rfl ?_
                obtain ⟨hj, hr1, hr2, hr3, hr4⟩ := h.mem
                refine wp_val (exec_buildSlice rfl (by rw [arr1]; simp only [show a.eval (.tmp 69) = _ from (h.at_ 1 rfl (pre_of hp 1 rfl))])) (lit1_obj u o HO3.out) ?_
                have hL : ([70, 71, 77, 78, 7, 8].map fun s => (a.put (some 70) (.slice (some ⟨u.heap.size, 0, none⟩) 1 1)).eval (.tmp s)) = [.slice (some ⟨u.heap.size, 0, none⟩) 1 1, a.eval (.tmp 71), a.eval (.tmp 77), a.eval (.tmp 78), a.eval (.tmp 7), a.eval (.tmp 8)] := by simp only [List.map_cons, List.map_nil, eval_put_eq (show 70 < a.tmps.size by rw [h.agree.2.1]; change 70 < 124; decide), eval_put_ne (show (71 : Nat) ≠ 70 by decide), eval_put_ne (show (77 : Nat) ≠ 70 by decide), eval_put_ne (show (78 : Nat) ≠ 70 by decide), eval_put_ne (show (7 : Nat) ≠ 70 by decide), eval_put_ne (show (8 : Nat) ≠ 70 by decide)]
                refine ⟨_, rfl, ?_⟩
                rw [hL]
                exact ⟨hj.lit1' hfi (hq 3 _ rfl rfl) rfl rfl, hr1, hr2, hr3, hr4⟩
              case o3 =>
                intro f a u h hfi hp hq hcl
                refine h.turn rfl rfl (some 71) rfl rfl ?_
                obtain ⟨hj, hr1, hr2, hr3, hr4⟩ := h.mem
                obtain ⟨q, el, hqb⟩ := hj.lit1 (pre_of hp 2 rfl) hfi
                replace el : a.eval (.tmp 70) = _ := el
                refine wp_append u (.tmp 68) (.tmp 70) 28 rfl B 35 (.agg (bv idNone ++ [Value.string ByteArray.empty]).toArray) 34 56 Tryd.underlying28 obI (by decide) (by decide) vo outs.length _ (h.at_ 0 rfl (pre_of hp 0 rfl)) (hj.out0 hfi) (some ⟨q, 0, none⟩) 1 1 (obC o) el (obC_len HO3.out) hqb.cells (obC_one o) (by simp only [maxLen]; omega) (by omega) hj.hB ?_
                intro v' u' ho' hg' hf'
                have hL : ([70, 71, 77, 78, 7, 8].map fun s => (a.put (some 71) (v')).eval (.tmp s)) = [a.eval (.tmp 70), v', a.eval (.tmp 77), a.eval (.tmp 78), a.eval (.tmp 7), a.eval (.tmp 8)] := by simp only [List.map_cons, List.map_nil, eval_put_eq (show 71 < a.tmps.size by rw [h.agree.2.1]; change 71 < 124; decide), eval_put_ne (show (70 : Nat) ≠ 71 by decide), eval_put_ne (show (77 : Nat) ≠ 71 by decide), eval_put_ne (show (78 : Nat) ≠ 71 by decide), eval_put_ne (show (7 : Nat) ≠ 71 by decide), eval_put_ne (show (8 : Nat) ≠ 71 by decide)]
                refine ⟨v', rfl, ?_⟩
                rw [hL]
                exact ⟨hj.app1' (pre_of hp 2 rfl) hfi rfl rfl hwB HNE.out (ownO_snoc ho') hg', hr1, fun hf => (by have h1 := hq 11 _ rfl rfl; rw [show f 11 = true from hf] at h1; cases h1), hr3, hr4⟩
              case o4 =>
                intro f a u h hfi hp hq hcl
                have e8 := h.mem.2.2.2.1 (hq 12 _ rfl rfl)
                replace e8 : a.eval (.tmp 8) = _ := e8
                have q8 := e8
                simp only [Act.eval, Array.getD_eq_getD_getElem?] at q8
                exact h.yield rfl rfl 72 rfl (by change 72 < 124; decide) rfl _ rfl (fun L hL => hL) (by go_simp)
              case o5 =>
                intro f a u h hfi hp hq hcl
                have q13 : a.tmps[13]?.getD undef = .string ByteArray.empty := h.agree.att (by decide)
                exact h.yield rfl rfl 73 rfl (by change 73 < 124; decide) rfl _ rfl (fun L hL => hL) (by go_simp)
              case o6 =>
                intro f a u h hfi hp hq hcl
                have q11 : a.tmps[11]?.getD undef = .pointer (some ⟨g11, 0, none⟩) := h.agree.att (by decide)
                exact h.yield rfl rfl 74 rfl (by change 74 < 124; decide) rfl _ rfl (fun L hL => hL) (by go_simp)
              case o7 =>
                intro f a u h hfi hp hq hcl
                exact h.yield rfl rfl 75 rfl (by change 75 < 124; decide) rfl _ rfl (fun L hL => hL) (run_of_sem rfl (by rw [h.at_ 4 rfl (pre_of hp 6 rfl)]; exact ld_id HO3.out (ob_cells h.mem.1.box HO3.out).1))
              case o8 =>
                intro f a u h hfi hp hq hcl
                exact h.stepV rfl rfl 76 rfl (by change 76 < 124; decide) rfl _ rfl (wp_val (s := Instr.build 77 #[(0, a.eval (.tmp 73)), (1, a.eval (.tmp 75))]) (exec_build rfl (by rw [arr2])) (by rw [h.at_ 3 rfl (pre_of hp 5 rfl), h.at_ 5 rfl (pre_of hp 7 rfl)]; exact build_kid _ _ _ HO3.out) ⟨rfl, h.mem⟩)
              case o9 =>
                intro f a u h hfi hp hq hcl
                refine h.turn rfl rfl (some 77) rfl rfl ?_
                obtain ⟨hj, hr1, hr2, hr3, hr4⟩ := h.mem
                refine wp_val (exec_buildSlice rfl (by rw [arr1]; simp only [show a.eval (.tmp 76) = _ from (h.at_ 6 rfl (pre_of hp 8 rfl))])) (lit1_kid u ByteArray.empty o.1 HO3.out) ?_
                have hL : ([70, 71, 77, 78, 7, 8].map fun s => (a.put (some 77) (.slice (some ⟨u.heap.size, 0, none⟩) 1 1)).eval (.tmp s)) = [a.eval (.tmp 70), a.eval (.tmp 71), .slice (some ⟨u.heap.size, 0, none⟩) 1 1, a.eval (.tmp 78), a.eval (.tmp 7), a.eval (.tmp 8)] := by simp only [List.map_cons, List.map_nil, eval_put_eq (show 77 < a.tmps.size by rw [h.agree.2.1]; change 77 < 124; decide), eval_put_ne (show (70 : Nat) ≠ 77 by decide), eval_put_ne (show (71 : Nat) ≠ 77 by decide), eval_put_ne (show (78 : Nat) ≠ 77 by decide), eval_put_ne (show (7 : Nat) ≠ 77 by decide), eval_put_ne (show (8 : Nat) ≠ 77 by decide)]
                refine ⟨_, rfl, ?_⟩
                rw [hL]
                exact ⟨hj.lit2' hfi (hq 10 _ rfl rfl) rfl rfl, hr1, hr2, hr3, hr4⟩
              case o10 =>
                intro f a u h hfi hp hq hcl
                refine h.turn rfl rfl (some 78) rfl rfl ?_
                obtain ⟨hj, hr1, hr2, hr3, hr4⟩ := h.mem
                obtain ⟨q, el, hqb⟩ := hj.lit2 (pre_of hp 9 rfl) hfi
                replace el : a.eval (.tmp 77) = _ := el
                refine wp_append u (.tmp 72) (.tmp 77) 71 rfl B 77 (.agg (Value.string ByteArray.empty :: bv idNone).toArray) 34 56 Tryd.underlying71 kdI (by decide) (by decide) vk ks.length _ (h.at_ 2 rfl (pre_of hp 4 rfl)) (hj.row0 hfi) (some ⟨q, 0, none⟩) 1 1 (kdC (ByteArray.empty, o.1)) el (kdC_len HO3.out) hqb.cells (kdC_one _) (by simp only [maxLen]; omega) (by omega) hj.hB ?_
                intro v' u' ho' hg' hf'
                have hL : ([70, 71, 77, 78, 7, 8].map fun s => (a.put (some 78) (v')).eval (.tmp s)) = [a.eval (.tmp 70), a.eval (.tmp 71), a.eval (.tmp 77), v', a.eval (.tmp 7), a.eval (.tmp 8)] := by simp only [List.map_cons, List.map_nil, eval_put_eq (show 78 < a.tmps.size by rw [h.agree.2.1]; change 78 < 124; decide), eval_put_ne (show (70 : Nat) ≠ 78 by decide), eval_put_ne (show (71 : Nat) ≠ 78 by decide), eval_put_ne (show (77 : Nat) ≠ 78 by decide), eval_put_ne (show (7 : Nat) ≠ 78 by decide), eval_put_ne (show (8 : Nat) ≠ 78 by decide)]
                refine ⟨v', rfl, ?_⟩
                rw [hL]
                exact ⟨hj.app2' (pre_of hp 9 rfl) hfi rfl rfl hwB (ownK_snoc ho') hg', hr1, hr2, hr3, fun hf => (by have h1 := hq 12 _ rfl rfl; rw [show f 12 = true from hf] at h1; cases h1)⟩
              case o11 =>
                intro f a u h hfi hp hq hcl
                refine h.turn rfl rfl (some 7) rfl rfl ?_
                obtain ⟨hj, hr1, hr2, hr3, hr4⟩ := h.mem
                refine wp_yield (v := a.eval (.tmp 71)) (w' := u) (by go_simp) ?_
                have hL : ([70, 71, 77, 78, 7, 8].map fun s => (a.put (some 7) (a.eval (.tmp 71))).eval (.tmp s)) = [a.eval (.tmp 70), a.eval (.tmp 71), a.eval (.tmp 77), a.eval (.tmp 78), a.eval (.tmp 71), a.eval (.tmp 8)] := by simp only [List.map_cons, List.map_nil, eval_put_eq (show 7 < a.tmps.size by rw [h.agree.2.1]; change 7 < 124; decide), eval_put_ne (show (70 : Nat) ≠ 7 by decide), eval_put_ne (show (71 : Nat) ≠ 7 by decide), eval_put_ne (show (77 : Nat) ≠ 7 by decide), eval_put_ne (show (78 : Nat) ≠ 7 by decide), eval_put_ne (show (8 : Nat) ≠ 7 by decide)]
                refine ⟨_, rfl, ?_⟩
                rw [hL]
                exact ⟨hj, fun hf => (by cases hf), fun _ => rfl, hr3, hr4⟩
              case o12 =>
                intro f a u h hfi hp hq hcl
                refine h.turn rfl rfl (some 8) rfl rfl ?_
                obtain ⟨hj, hr1, hr2, hr3, hr4⟩ := h.mem
                refine wp_yield (v := a.eval (.tmp 78)) (w' := u) (by go_simp) ?_
                have hL : ([70, 71, 77, 78, 7, 8].map fun s => (a.put (some 8) (a.eval (.tmp 78))).eval (.tmp s)) = [a.eval (.tmp 70), a.eval (.tmp 71), a.eval (.tmp 77), a.eval (.tmp 78), a.eval (.tmp 7), a.eval (.tmp 78)] := by simp only [List.map_cons, List.map_nil, eval_put_eq (show 8 < a.tmps.size by rw [h.agree.2.1]; change 8 < 124; decide), eval_put_ne (show (70 : Nat) ≠ 8 by decide), eval_put_ne (show (71 : Nat) ≠ 8 by decide), eval_put_ne (show (77 : Nat) ≠ 8 by decide), eval_put_ne (show (78 : Nat) ≠ 8 by decide), eval_put_ne (show (7 : Nat) ≠ 8 by decide)]
                refine ⟨_, rfl, ?_⟩
                rw [hL]
                exact ⟨hj, hr1, hr2, fun hf => (by cases hf), fun _ => rfl⟩
            · intro f a u h hall hfar
              have hag := h.agree.out
              have hm := h.mem
              simp only [List.foldl_cons, List.foldl_nil, Act.put, List.setIfInBounds_toArray, List.set_cons_zero, List.set_cons_succ] at hag
              obtain ⟨hj, hr1, hr2, hr3, hr4⟩ := hm
              rw [hall 2 (by decide), hall 3 (by decide), hall 9 (by decide), hall 10 (by decide)] at hj
              have e7 := hr2 (hall 11 (by decide))
              have e8 := hr4 (hall 12 (by decide))
              replace e7 : a.eval (.tmp 7) = a.eval (.tmp 71) := e7
              replace e8 : a.eval (.tmp 8) = a.eval (.tmp 78) := e8
              have ho2 : OwnO B u (a.eval (.tmp 71)) (outs ++ [o]) := hj.out1 rfl
              have hk2 : OwnK B u (a.eval (.tmp 78)) (ks ++ [(ByteArray.empty, o.1)]) := hj.row1 rfl
              have hxu := hj.ext
              have hBu := hj.hB
              rw [← e7] at ho2
              rw [← e8] at hk2
              clear hj hr1 hr2 hr3 hr4 e7 e8
              obtain ⟨vo2, hvo2⟩ : ∃ v, a.eval (.tmp 7) = v := ⟨_, rfl⟩
              obtain ⟨vk2, hvk2⟩ : ∃ v, a.eval (.tmp 8) = v := ⟨_, rfl⟩
              rw [hvo2] at hag ho2
              rw [hvk2] at hag hk2
              clear hvo2 hvk2
              generalize a.eval (.tmp 68) = y68 at hag
              generalize a.eval (.tmp 69) = y69 at hag
              generalize a.eval (.tmp 70) = y70 at hag
              generalize a.eval (.tmp 71) = y71 at hag
              generalize a.eval (.tmp 72) = y72 at hag
              generalize a.eval (.tmp 73) = y73 at hag
              generalize a.eval (.tmp 74) = y74 at hag
              generalize a.eval (.tmp 75) = y75 at hag
              generalize a.eval (.tmp 76) = y76 at hag
              generalize a.eval (.tmp 77) = y77 at hag
              generalize a.eval (.tmp 78) = y78 at hag
              clear h hall hfar
              subst hag
              have HO4 := Lib.hid ho2
              have HK4 := Lib.hid hk2
              clear ho2 hk2
              have HST2 : Hid (LeafSt k ps n (0 + 4) (outs ++ [o]) (ks ++ [(ByteArray.empty, o.1)])) := Lib.hid (leaf_step HST.out HN.out (by omega) HCD.out HO.out (by rw [HKEY.out]))
              clear HST HO HO3 c10
              go_wp2
              go_roundw
              case rel => exact ⟨0 + 4, outs ++ [o], ks ++ [(ByteArray.empty, o.1)], by go_num, by omega, HO4, HK4, HST2, hxu, hBu⟩
              case measure => simp [intOf] <;> omega
  
      · have hm0i : ¬ (m : Int) = 0 := by omega
        by_cases hmn : m < n
        · have hmni : (m : Int) < (n : Int) := by omega
          by_cases hfull : m + 4 ≤ n
          · have h4 : (m : Int) + 4 ≤ (n : Int) := by omega
            obtain ⟨cc, hcc⟩ : ∃ x, x = (ps.drop m).take 4 := ⟨_, rfl⟩
            have hL : cc.length = 4 := by rw [hcc, List.length_take, List.length_drop, HN.out]; omega
            have hcells : Cells wr A (ps.map prC).flatten := Row.cells (HR.out.ext hx) (by decide)
            have HCE := Lib.hid hcells
            have HPN : Hid ((ps.map prC).flatten.length = n * 2) := Lib.hid (by rw [Row.len HR.out, List.length_map, HN.out])
            have HCC : Hid (PrsOk cc ∧ cc.length ≤ 4) := Lib.hid (by rw [hcc]; exact ⟨(HP.out.drop _).take _, by rw [List.length_take]; omega⟩)
            have HCL := Lib.hid hL
            have HCD := Lib.hid hcc
            have hL4 : 4 ≤ 4 := by omega
            obtain ⟨o, ho⟩ : ∃ o, o = objT k (leafT cc) := ⟨_, rfl⟩
            have HO := Lib.hid ho
            have HO3 : Hid (o.1.length = 33) := Lib.hid (by rw [ho]; exact (obj_id k hk0 _).1)
            have HLT : Hid (∀ j, vo.ownBlock = some j → j < wr.heap.size) := Lib.hid (fun j hj => (own_lt HOO.out hj).2)
            clear hcells hL hcc ho
            have hL0 : 0 < 4 := by omega
            go_upto_region 14 with (first
              | (refine wpList_slice_lh rfl 22 65 (.tmp 40) (.tmp 41) (.tmp 46) rfl Tryd.underlying22 2 pr_info A n c m (m + 4) .i64 .i64 rfl rfl rfl (by omega) (by omega) hnc HCE.out HPN.out ?_; intro A' hA' hS'; have HROW := Lib.hid (Cells.sub m 4 hA' (fun cs hcs => by obtain ⟨p, _, rfl⟩ := List.mem_map.1 hcs; rfl) (by decide)); clear hA')
              | (refine wpList_store_blk rfl 73 (.tmp 10) (.tmp 48) rfl rfl wr.heap.size #[.slice A' 4 (c - m), .slice none 0 0] rfl rfl _ _ (Blk.new wr _ _) rfl (by kernel_rfl) (by simp [Value.oneCell']) ?_; intro w3 hb10 hg10; have hx3 : Ext wr w3 := ((Ext.refl _).alloc _).grown_ hg10 (fun j e => by cases e; exact Nat.le_refl _); have HB10 := Lib.hid hb10; clear hb10 hg10)
              | (refine wpList_load_row_ rfl 73 (.tmp 10) rfl ⟨wr.heap.size, 0, none⟩ rfl [.slice A' 4 (c - m), .slice none 0 0] _ (blk_cellsT HB10.out) Tryd.underlying73 rfl (by kernel_rfl) ?_)
              | (go_at_call 35; (with_reducible refine Calls.mono (made_leaf k cc A' 4 (c - m) w3 (by have h1 := HROW.out; rw [← List.map_drop, ← List.map_take, ← HCD.out] at h1; exact h1.ext hx3) HCL.out (by omega) (by omega) HCC.out.1 (HT.out.ext (hx.trans hx3)) o HO.out) ?_); rintro e w4 ⟨rfl, hx4⟩)
              | (refine wpList_store_blk rfl 35 (.tmp 11) (.tmp 53) rfl rfl w4.heap.size (obC o).toArray rfl rfl _ _ (Blk.new w4 _ _) (by rw [List.size_toArray, obC_len HO3.out]; rfl) (by kernel_rfl) (fun v hv => obC_one o v (by simpa using hv)) ?_; intro w5 hb11 hg11; have hx45 : Ext w4 w5 := ((Ext.refl _).alloc _).grown_ hg11 (fun j e => by cases e; exact Nat.le_refl _)))
            have hxr5 := (hx3.trans hx4).trans hx45
            have hx5 := hx.trans hxr5
            have hB5 : B ≤ w5.heap.size := Nat.le_trans hBw hxr5.size
            have HO5 := Lib.hid (HOO.out.ext hxr5)
            have HK5 := Lib.hid (HOK.out.ext hxr5)
            obtain ⟨g11, hg11e⟩ : ∃ g, g = w4.heap.size := ⟨_, rfl⟩
            have hwg : wr.heap.size ≤ g11 := by rw [hg11e]; exact (hx3.trans hx4).size
            have HNE : Hid (∀ j, vo.ownBlock = some j → j ≠ g11) := Lib.hid (fun j hj => by have := HLT.out j hj; omega)
            obtain ⟨g10, hg10e⟩ : ∃ g, g = wr.heap.size := ⟨_, rfl⟩
            rw [← hg11e] at hb11 ⊢
            rw [← hg10e] at HB10 ⊢
            have HB11 := Lib.hid hb11
            have HB105 := Lib.hid ((HB10.out.ext hx4).ext hx45)
            have HROW5 := Lib.hid (HROW.out.ext hxr5)
            have c10 : w5.cell? ⟨g10, 0, none⟩ = some (.slice A' 4 (c - m)) := by rw [HB105.out.cell]; rfl
            clear hb11 hg11 hg11e hg10e hx45 hx4 hx3 HB10 HROW HLT HCE HPN
            obtain ⟨x, hxa, r0, _⟩ := pr_row (ps := cc) (by have h1 := HROW5.out; rw [← List.map_drop, ← List.map_take, ← HCD.out] at h1; exact h1) (i := 0) (by rw [HCL.out]; exact hL0)
            subst hxa
            obtain ⟨key, hkey⟩ : ∃ s, s = (cc[0]'(by rw [HCL.out]; exact hL0)).1 := ⟨_, rfl⟩
            rw [← hkey] at r0
            have r0' : w5.cell? x = some (.string key) := r0
            have HKEY : Hid (headP cc = key) := Lib.hid (by rw [hkey]; cases cc with | nil => rw [List.length_nil] at HCL; have := HCL.out; omega | cons a t => rfl)
            have hL0i : (0 : Int) < (4 : Int) := by omega
            clear r0 hkey HROW5
            go_upto_region 19 with (fail)
            clear r0' HB105
            refine wp_region_opsC (JInv [68, 69, 70, 71, 72, 73, 74, 75, 76, 77, 78, 7, 8] _ [(0, 68, vo), (1, 69, .agg (obC o).toArray), (4, 72, vk), (5, 73, .string key), (6, 74, .pointer (some ⟨g11, 0, none⟩)), (7, 75, .agg (bv o.1).toArray), (8, 76, .agg (kdC (key, o.1)).toArray)] [70, 71, 77, 78, 7, 8] (fun f L u => JT w1 B B g11 o outs vo (key, o.1) ks vk (f 2) (f 3) (f 9) (f 10) (L.getD 0 undef) (L.getD 1 undef) (L.getD 2 undef) (L.getD 3 undef) u ∧ (f 11 = false → L.getD 4 undef = vo) ∧ (f 11 = true → L.getD 4 undef = L.getD 1 undef) ∧ (f 12 = false → L.getD 5 undef = vk) ∧ (f 12 = true → L.getD 5 undef = L.getD 3 undef))) (by kernel_rfl) (by kernel_rfl) (JInv.start (⟨JT.start hx5.drew hB5 hB5 (HB11.out.ext (Ext.refl _).drew) (HO5.out.ext (Ext.refl _).drew) (HK5.out.ext (Ext.refl _).drew), fun _ => rfl, fun h => (by cases h), fun _ => rfl, fun h => (by cases h)⟩)) ?_ ?_
            · refine ⟨?o0, ?o1, ?o2, ?o3, ?o4, ?o5, ?o6, ?o7, ?o8, ?o9, ?o10, ?o11, ?o12, trivial⟩
              case o0 =>
                intro f a u h hfi hp hq hcl
                have e7 := h.mem.2.1 (hq 11 _ rfl rfl)
                replace e7 : a.eval (.tmp 7) = _ := e7
                have q7 := e7
                simp only [Act.eval, Array.getD_eq_getD_getElem?] at q7
                exact h.yield rfl rfl 68 rfl (by change 68 < 124; decide) rfl _ rfl (fun L hL => hL) (by go_simp)
              case o1 =>
                intro f a u h hfi hp hq hcl
                exact h.yield rfl rfl 69 rfl (by change 69 < 124; decide) rfl _ rfl (fun L hL => hL) (run_of_sem rfl (by rw [(show a.eval (.tmp 11) = .pointer (some ⟨g11, 0, none⟩) from h.agree.eval (by decide))]; exact run_load_blk h.mem.1.box Tryd.underlying35 rfl (by rw [List.size_toArray, obC_len HO3.out]; kernel_rfl)))
              case o2 =>
                intro f a u h hfi hp hq hcl
                refine h.turn rfl rfl (some 70) rfl rfl ?_
                obtain ⟨hj, hr1, hr2, hr3, hr4⟩ := h.mem
                refine wp_val (exec_buildSlice rfl (by rw [arr1]; simp only [show a.eval (.tmp 69) = _ from (h.at_ 1 rfl (pre_of hp 1 rfl))])) (lit1_obj u o HO3.out) ?_
                have hL : ([70, 71, 77, 78, 7, 8].map fun s => (a.put (some 70) (.slice (some ⟨u.heap.size, 0, none⟩) 1 1)).eval (.tmp s)) = [.slice (some ⟨u.heap.size, 0, none⟩) 1 1, a.eval (.tmp 71), a.eval (.tmp 77), a.eval (.tmp 78), a.eval (.tmp 7), a.eval (.tmp 8)] := by simp only [List.map_cons, List.map_nil, eval_put_eq (show 70 < a.tmps.size by rw [h.agree.2.1]; change 70 < 124; decide), eval_put_ne (show (71 : Nat) ≠ 70 by decide), eval_put_ne (show (77 : Nat) ≠ 70 by decide), eval_put_ne (show (78 : Nat) ≠ 70 by decide), eval_put_ne (show (7 : Nat) ≠ 70 by decide), eval_put_ne (show (8 : Nat) ≠ 70 by decide)]
                refine ⟨_, rfl, ?_⟩
                rw [hL]
                exact ⟨hj.lit1' hfi (hq 3 _ rfl rfl) rfl rfl, hr1, hr2, hr3, hr4⟩
              case o3 =>
                intro f a u h hfi hp hq hcl
                refine h.turn rfl rfl (some 71) rfl rfl ?_
                obtain ⟨hj, hr1, hr2, hr3, hr4⟩ := h.mem
                obtain ⟨q, el, hqb⟩ := hj.lit1 (pre_of hp 2 rfl) hfi
                replace el : a.eval (.tmp 70) = _ := el
                refine wp_append u (.tmp 68) (.tmp 70) 28 rfl B 35 (.agg (bv idNone ++ [Value.string ByteArray.empty]).toArray) 34 56 Tryd.underlying28 obI (by decide) (by decide) vo outs.length _ (h.at_ 0 rfl (pre_of hp 0 rfl)) (hj.out0 hfi) (some ⟨q, 0, none⟩) 1 1 (obC o) el (obC_len HO3.out) hqb.cells (obC_one o) (by simp only [maxLen]; omega) (by omega) hj.hB ?_
                intro v' u' ho' hg' hf'
                have hL : ([70, 71, 77, 78, 7, 8].map fun s => (a.put (some 71) (v')).eval (.tmp s)) = [a.eval (.tmp 70), v', a.eval (.tmp 77), a.eval (.tmp 78), a.eval (.tmp 7), a.eval (.tmp 8)] := by simp only [List.map_cons, List.map_nil, eval_put_eq (show 71 < a.tmps.size by rw [h.agree.2.1]; change 71 < 124; decide), eval_put_ne (show (70 : Nat) ≠ 71 by decide), eval_put_ne (show (77 : Nat) ≠ 71 by decide), eval_put_ne (show (78 : Nat) ≠ 71 by decide), eval_put_ne (show (7 : Nat) ≠ 71 by decide), eval_put_ne (show (8 : Nat) ≠ 71 by decide)]
                refine ⟨v', rfl, ?_⟩
                rw [hL]
                exact ⟨hj.app1' (pre_of hp 2 rfl) hfi rfl rfl hwB HNE.out (ownO_snoc ho') hg', hr1, fun hf => (by have h1 := hq 11 _ rfl rfl; rw [show f 11 = true from hf] at h1; cases h1), hr3, hr4⟩
              case o4 =>
                intro f a u h hfi hp hq hcl
                have e8 := h.mem.2.2.2.1 (hq 12 _ rfl rfl)
                replace e8 : a.eval (.tmp 8) = _ := e8
                have q8 := e8
                simp only [Act.eval, Array.getD_eq_getD_getElem?] at q8
                exact h.yield rfl rfl 72 rfl (by change 72 < 124; decide) rfl _ rfl (fun L hL => hL) (by go_simp)
              case o5 =>
                intro f a u h hfi hp hq hcl
                have q13 : a.tmps[13]?.getD undef = .string key := h.agree.att (by decide)
                exact h.yield rfl rfl 73 rfl (by change 73 < 124; decide) rfl _ rfl (fun L hL => hL) (by go_simp)
              case o6 =>
                intro f a u h hfi hp hq hcl
                have q11 : a.tmps[11]?.getD undef = .pointer (some ⟨g11, 0, none⟩) := h.agree.att (by decide)
                exact h.yield rfl rfl 74 rfl (by change 74 < 124; decide) rfl _ rfl (fun L hL => hL) (by go_simp)
              case o7 =>
                intro f a u h hfi hp hq hcl
                exact h.yield rfl rfl 75 rfl (by change 75 < 124; decide) rfl _ rfl (fun L hL => hL) (run_of_sem rfl (by rw [h.at_ 4 rfl (pre_of hp 6 rfl)]; exact ld_id HO3.out (ob_cells h.mem.1.box HO3.out).1))
              case o8 =>
                intro f a u h hfi hp hq hcl
                exact h.stepV rfl rfl 76 rfl (by change 76 < 124; decide) rfl _ rfl (wp_val (s := Instr.build 77 #[(0, a.eval (.tmp 73)), (1, a.eval (.tmp 75))]) (exec_build rfl (by rw [arr2])) (by rw [h.at_ 3 rfl (pre_of hp 5 rfl), h.at_ 5 rfl (pre_of hp 7 rfl)]; exact build_kid _ _ _ HO3.out) ⟨rfl, h.mem⟩)
              case o9 =>
                intro f a u h hfi hp hq hcl
                refine h.turn rfl rfl (some 77) rfl rfl ?_
                obtain ⟨hj, hr1, hr2, hr3, hr4⟩ := h.mem
                refine wp_val (exec_buildSlice rfl (by rw [arr1]; simp only [show a.eval (.tmp 76) = _ from (h.at_ 6 rfl (pre_of hp 8 rfl))])) (lit1_kid u key o.1 HO3.out) ?_
                have hL : ([70, 71, 77, 78, 7, 8].map fun s => (a.put (some 77) (.slice (some ⟨u.heap.size, 0, none⟩) 1 1)).eval (.tmp s)) = [a.eval (.tmp 70), a.eval (.tmp 71), .slice (some ⟨u.heap.size, 0, none⟩) 1 1, a.eval (.tmp 78), a.eval (.tmp 7), a.eval (.tmp 8)] := by simp only [List.map_cons, List.map_nil, eval_put_eq (show 77 < a.tmps.size by rw [h.agree.2.1]; change 77 < 124; decide), eval_put_ne (show (70 : Nat) ≠ 77 by decide), eval_put_ne (show (71 : Nat) ≠ 77 by decide), eval_put_ne (show (78 : Nat) ≠ 77 by decide), eval_put_ne (show (7 : Nat) ≠ 77 by decide), eval_put_ne (show (8 : Nat) ≠ 77 by decide)]
                refine ⟨_, rfl, ?_⟩
                rw [hL]
                exact ⟨hj.lit2' hfi (hq 10 _ rfl rfl) rfl rfl, hr1, hr2, hr3, hr4⟩
              case o10 =>
                intro f a u h hfi hp hq hcl
                refine h.turn rfl rfl (some 78) rfl rfl ?_
                obtain ⟨hj, hr1, hr2, hr3, hr4⟩ := h.mem
                obtain ⟨q, el, hqb⟩ := hj.lit2 (pre_of hp 9 rfl) hfi
                replace el : a.eval (.tmp 77) = _ := el
                refine wp_append u (.tmp 72) (.tmp 77) 71 rfl B 77 (.agg (Value.string ByteArray.empty :: bv idNone).toArray) 34 56 Tryd.underlying71 kdI (by decide) (by decide) vk ks.length _ (h.at_ 2 rfl (pre_of hp 4 rfl)) (hj.row0 hfi) (some ⟨q, 0, none⟩) 1 1 (kdC (key, o.1)) el (kdC_len HO3.out) hqb.cells (kdC_one _) (by simp only [maxLen]; omega) (by omega) hj.hB ?_
                intro v' u' ho' hg' hf'
                have hL : ([70, 71, 77, 78, 7, 8].map fun s => (a.put (some 78) (v')).eval (.tmp s)) = [a.eval (.tmp 70), a.eval (.tmp 71), a.eval (.tmp 77), v', a.eval (.tmp 7), a.eval (.tmp 8)] := by simp only [List.map_cons, List.map_nil, eval_put_eq (show 78 < a.tmps.size by rw [h.agree.2.1]; change 78 < 124; decide), eval_put_ne (show (70 : Nat) ≠ 78 by decide), eval_put_ne (show (71 : Nat) ≠ 78 by decide), eval_put_ne (show (77 : Nat) ≠ 78 by decide), eval_put_ne (show (7 : Nat) ≠ 78 by decide), eval_put_ne (show (8 : Nat) ≠ 78 by decide)]
                refine ⟨v', rfl, ?_⟩
                rw [hL]
                exact ⟨hj.app2' (pre_of hp 9 rfl) hfi rfl rfl hwB (ownK_snoc ho') hg', hr1, hr2, hr3, fun hf => (by have h1 := hq 12 _ rfl rfl; rw [show f 12 = true from hf] at h1; cases h1)⟩
              case o11 =>
                intro f a u h hfi hp hq hcl
                refine h.turn rfl rfl (some 7) rfl rfl ?_
                obtain ⟨hj, hr1, hr2, hr3, hr4⟩ := h.mem
                refine wp_yield (v := a.eval (.tmp 71)) (w' := u) (by go_simp) ?_
                have hL : ([70, 71, 77, 78, 7, 8].map fun s => (a.put (some 7) (a.eval (.tmp 71))).eval (.tmp s)) = [a.eval (.tmp 70), a.eval (.tmp 71), a.eval (.tmp 77), a.eval (.tmp 78), a.eval (.tmp 71), a.eval (.tmp 8)] := by simp only [List.map_cons, List.map_nil, eval_put_eq (show 7 < a.tmps.size by rw [h.agree.2.1]; change 7 < 124; decide), eval_put_ne (show (70 : Nat) ≠ 7 by decide), eval_put_ne (show (71 : Nat) ≠ 7 by decide), eval_put_ne (show (77 : Nat) ≠ 7 by decide), eval_put_ne (show (78 : Nat) ≠ 7 by decide), eval_put_ne (show (8 : Nat) ≠ 7 by decide)]
                refine ⟨_, rfl, ?_⟩
                rw [hL]
                exact ⟨hj, fun hf => (by cases hf), fun _ => rfl, hr3, hr4⟩
              case o12 =>
                intro f a u h hfi hp hq hcl
                refine h.turn rfl rfl (some 8) rfl rfl ?_
                obtain ⟨hj, hr1, hr2, hr3, hr4⟩ := h.mem
                refine wp_yield (v := a.eval (.tmp 78)) (w' := u) (by go_simp) ?_
                have hL : ([70, 71, 77, 78, 7, 8].map fun s => (a.put (some 8) (a.eval (.tmp 78))).eval (.tmp s)) = [a.eval (.tmp 70), a.eval (.tmp 71), a.eval (.tmp 77), a.eval (.tmp 78), a.eval (.tmp 7), a.eval (.tmp 78)] := by simp only [List.map_cons, List.map_nil, eval_put_eq (show 8 < a.tmps.size by rw [h.agree.2.1]; change 8 < 124; decide), eval_put_ne (show (70 : Nat) ≠ 8 by decide), eval_put_ne (show (71 : Nat) ≠ 8 by decide), eval_put_ne (show (77 : Nat) ≠ 8 by decide), eval_put_ne (show (78 : Nat) ≠ 8 by decide), eval_put_ne (show (7 : Nat) ≠ 8 by decide)]
                refine ⟨_, rfl, ?_⟩
                rw [hL]
                exact ⟨hj, hr1, hr2, fun hf => (by cases hf), fun _ => rfl⟩
            · intro f a u h hall hfar
              have hag := h.agree.out
              have hm := h.mem
              simp only [List.foldl_cons, List.foldl_nil, Act.put, List.setIfInBounds_toArray, List.set_cons_zero, List.set_cons_succ] at hag
              obtain ⟨hj, hr1, hr2, hr3, hr4⟩ := hm
              rw [hall 2 (by decide), hall 3 (by decide), hall 9 (by decide), hall 10 (by decide)] at hj
              have e7 := hr2 (hall 11 (by decide))
              have e8 := hr4 (hall 12 (by decide))
              replace e7 : a.eval (.tmp 7) = a.eval (.tmp 71) := e7
              replace e8 : a.eval (.tmp 8) = a.eval (.tmp 78) := e8
              have ho2 : OwnO B u (a.eval (.tmp 71)) (outs ++ [o]) := hj.out1 rfl
              have hk2 : OwnK B u (a.eval (.tmp 78)) (ks ++ [(key, o.1)]) := hj.row1 rfl
              have hxu := hj.ext
              have hBu := hj.hB
              rw [← e7] at ho2
              rw [← e8] at hk2
              clear hj hr1 hr2 hr3 hr4 e7 e8
              obtain ⟨vo2, hvo2⟩ : ∃ v, a.eval (.tmp 7) = v := ⟨_, rfl⟩
              obtain ⟨vk2, hvk2⟩ : ∃ v, a.eval (.tmp 8) = v := ⟨_, rfl⟩
              rw [hvo2] at hag ho2
              rw [hvk2] at hag hk2
              clear hvo2 hvk2
              generalize a.eval (.tmp 68) = y68 at hag
              generalize a.eval (.tmp 69) = y69 at hag
              generalize a.eval (.tmp 70) = y70 at hag
              generalize a.eval (.tmp 71) = y71 at hag
              generalize a.eval (.tmp 72) = y72 at hag
              generalize a.eval (.tmp 73) = y73 at hag
              generalize a.eval (.tmp 74) = y74 at hag
              generalize a.eval (.tmp 75) = y75 at hag
              generalize a.eval (.tmp 76) = y76 at hag
              generalize a.eval (.tmp 77) = y77 at hag
              generalize a.eval (.tmp 78) = y78 at hag
              clear h hall hfar
              subst hag
              have HO4 := Lib.hid ho2
              have HK4 := Lib.hid hk2
              clear ho2 hk2
              have HST2 : Hid (LeafSt k ps n (m + 4) (outs ++ [o]) (ks ++ [(key, o.1)])) := Lib.hid (leaf_step HST.out HN.out (by omega) HCD.out HO.out (by rw [HKEY.out]))
              clear HST HO HO3 c10
              go_wp2
              go_roundw
              case rel => exact ⟨m + 4, outs ++ [o], ks ++ [(key, o.1)], by go_num, by omega, HO4, HK4, HST2, hxu, hBu⟩
              case measure => simp [intOf] <;> omega
  
          · have h4 : ¬ (m : Int) + 4 ≤ (n : Int) := by omega
            have h4' : (n : Int) < (m : Int) + 4 := by omega
            obtain ⟨L, hnm⟩ : ∃ x, n - m = x := ⟨_, rfl⟩
            have hL0 : 0 < L := by omega
            obtain ⟨cc, hcc⟩ : ∃ x, x = (ps.drop m).take 4 := ⟨_, rfl⟩
            have hL : cc.length = L := by rw [hcc, List.length_take, List.length_drop, HN.out]; omega
            have hcells : Cells wr A (ps.map prC).flatten := Row.cells (HR.out.ext hx) (by decide)
            have HCE := Lib.hid hcells
            have HPN : Hid ((ps.map prC).flatten.length = n * 2) := Lib.hid (by rw [Row.len HR.out, List.length_map, HN.out])
            have HCC : Hid (PrsOk cc ∧ cc.length ≤ 4) := Lib.hid (by rw [hcc]; exact ⟨(HP.out.drop _).take _, by rw [List.length_take]; omega⟩)
            have HCL := Lib.hid hL
            have HCD := Lib.hid hcc
            have hL4 : L ≤ 4 := by omega
            obtain ⟨o, ho⟩ : ∃ o, o = objT k (leafT cc) := ⟨_, rfl⟩
            have HO := Lib.hid ho
            have HO3 : Hid (o.1.length = 33) := Lib.hid (by rw [ho]; exact (obj_id k hk0 _).1)
            have HLT : Hid (∀ j, vo.ownBlock = some j → j < wr.heap.size) := Lib.hid (fun j hj => (own_lt HOO.out hj).2)
            clear hcells hL hcc ho
            go_upto_region 14 with (first
              | (refine wpList_slice_lh rfl 22 65 (.tmp 40) (.tmp 41) (.tmp 46) rfl Tryd.underlying22 2 pr_info A n c m (n) .i64 .i64 rfl rfl rfl (by omega) (by omega) hnc HCE.out HPN.out ?_; intro A' hA' hS'; have HROW := Lib.hid (Cells.sub m 4 hA' (fun cs hcs => by obtain ⟨p, _, rfl⟩ := List.mem_map.1 hcs; rfl) (by decide)); clear hA')
              | (refine wpList_store_blk rfl 73 (.tmp 10) (.tmp 48) rfl rfl wr.heap.size #[.slice A' L (c - m), .slice none 0 0] rfl rfl _ _ (Blk.new wr _ _) rfl (by kernel_rfl) (by simp [Value.oneCell']) ?_; intro w3 hb10 hg10; have hx3 : Ext wr w3 := ((Ext.refl _).alloc _).grown_ hg10 (fun j e => by cases e; exact Nat.le_refl _); have HB10 := Lib.hid hb10; clear hb10 hg10)
              | (refine wpList_load_row_ rfl 73 (.tmp 10) rfl ⟨wr.heap.size, 0, none⟩ rfl [.slice A' L (c - m), .slice none 0 0] _ (blk_cellsT HB10.out) Tryd.underlying73 rfl (by kernel_rfl) ?_)
              | (go_at_call 35; (with_reducible refine Calls.mono (made_leaf k cc A' L (c - m) w3 (by have h1 := HROW.out; rw [← List.map_drop, ← List.map_take, ← HCD.out] at h1; exact h1.ext hx3) HCL.out (by omega) (by omega) HCC.out.1 (HT.out.ext (hx.trans hx3)) o HO.out) ?_); rintro e w4 ⟨rfl, hx4⟩)
              | (refine wpList_store_blk rfl 35 (.tmp 11) (.tmp 53) rfl rfl w4.heap.size (obC o).toArray rfl rfl _ _ (Blk.new w4 _ _) (by rw [List.size_toArray, obC_len HO3.out]; rfl) (by kernel_rfl) (fun v hv => obC_one o v (by simpa using hv)) ?_; intro w5 hb11 hg11; have hx45 : Ext w4 w5 := ((Ext.refl _).alloc _).grown_ hg11 (fun j e => by cases e; exact Nat.le_refl _)))
            have hxr5 := (hx3.trans hx4).trans hx45
            have hx5 := hx.trans hxr5
            have hB5 : B ≤ w5.heap.size := Nat.le_trans hBw hxr5.size
            have HO5 := Lib.hid (HOO.out.ext hxr5)
            have HK5 := Lib.hid (HOK.out.ext hxr5)
            obtain ⟨g11, hg11e⟩ : ∃ g, g = w4.heap.size := ⟨_, rfl⟩
            have hwg : wr.heap.size ≤ g11 := by rw [hg11e]; exact (hx3.trans hx4).size
            have HNE : Hid (∀ j, vo.ownBlock = some j → j ≠ g11) := Lib.hid (fun j hj => by have := HLT.out j hj; omega)
            obtain ⟨g10, hg10e⟩ : ∃ g, g = wr.heap.size := ⟨_, rfl⟩
            rw [← hg11e] at hb11 ⊢
            rw [← hg10e] at HB10 ⊢
            have HB11 := Lib.hid hb11
            have HB105 := Lib.hid ((HB10.out.ext hx4).ext hx45)
            have HROW5 := Lib.hid (HROW.out.ext hxr5)
            have c10 : w5.cell? ⟨g10, 0, none⟩ = some (.slice A' L (c - m)) := by rw [HB105.out.cell]; rfl
            clear hb11 hg11 hg11e hg10e hx45 hx4 hx3 HB10 HROW HLT HCE HPN
            obtain ⟨x, hxa, r0, _⟩ := pr_row (ps := cc) (by have h1 := HROW5.out; rw [← List.map_drop, ← List.map_take, ← HCD.out] at h1; exact h1) (i := 0) (by rw [HCL.out]; exact hL0)
            subst hxa
            obtain ⟨key, hkey⟩ : ∃ s, s = (cc[0]'(by rw [HCL.out]; exact hL0)).1 := ⟨_, rfl⟩
            rw [← hkey] at r0
            have r0' : w5.cell? x = some (.string key) := r0
            have HKEY : Hid (headP cc = key) := Lib.hid (by rw [hkey]; cases cc with | nil => rw [List.length_nil] at HCL; have := HCL.out; omega | cons a t => rfl)
            have hL0i : (0 : Int) < (L : Int) := by omega
            clear r0 hkey HROW5
            go_upto_region 19 with (fail)
            clear r0' HB105
            refine wp_region_opsC (JInv [68, 69, 70, 71, 72, 73, 74, 75, 76, 77, 78, 7, 8] _ [(0, 68, vo), (1, 69, .agg (obC o).toArray), (4, 72, vk), (5, 73, .string key), (6, 74, .pointer (some ⟨g11, 0, none⟩)), (7, 75, .agg (bv o.1).toArray), (8, 76, .agg (kdC (key, o.1)).toArray)] [70, 71, 77, 78, 7, 8] (fun f L u => JT w1 B B g11 o outs vo (key, o.1) ks vk (f 2) (f 3) (f 9) (f 10) (L.getD 0 undef) (L.getD 1 undef) (L.getD 2 undef) (L.getD 3 undef) u ∧ (f 11 = false → L.getD 4 undef = vo) ∧ (f 11 = true → L.getD 4 undef = L.getD 1 undef) ∧ (f 12 = false → L.getD 5 undef = vk) ∧ (f 12 = true → L.getD 5 undef = L.getD 3 undef))) (by kernel_rfl) (by kernel_rfl) (JInv.start (⟨JT.start hx5.drew hB5 hB5 (HB11.out.ext (Ext.refl _).drew) (HO5.out.ext (Ext.refl _).drew) (HK5.out.ext (Ext.refl _).drew), fun _ => rfl, fun h => (by cases h), fun _ => rfl, fun h => (by cases h)⟩)) ?_ ?_
            · refine ⟨?o0, ?o1, ?o2, ?o3, ?o4, ?o5, ?o6, ?o7, ?o8, ?o9, ?o10, ?o11, ?o12, trivial⟩
              case o0 =>
                intro f a u h hfi hp hq hcl
                have e7 := h.mem.2.1 (hq 11 _ rfl rfl)
                replace e7 : a.eval (.tmp 7) = _ := e7
                have q7 := e7
                simp only [Act.eval, Array.getD_eq_getD_getElem?] at q7
                exact h.yield rfl rfl 68 rfl (by change 68 < 124; decide) rfl _ rfl (fun L hL => hL) (by go_simp)
              case o1 =>
                intro f a u h hfi hp hq hcl
                exact h.yield rfl rfl 69 rfl (by change 69 < 124; decide) rfl _ rfl (fun L hL => hL) (run_of_sem rfl (by rw [(show a.eval (.tmp 11) = .pointer (some ⟨g11, 0, none⟩) from h.agree.eval (by decide))]; exact run_load_blk h.mem.1.box Tryd.underlying35 rfl (by rw [List.size_toArray, obC_len HO3.out]; kernel_rfl)))
              case o2 =>
                intro f a u h hfi hp hq hcl
                refine h.turn rfl rfl (some 70) rfl rfl ?_
                obtain ⟨hj, hr1, hr2, hr3, hr4⟩ := h.mem
                refine wp_val (exec_buildSlice rfl (by rw [arr1]; simp only [show a.eval (.tmp 69) = _ from (h.at_ 1 rfl (pre_of hp 1 rfl))])) (lit1_obj u o HO3.out) ?_
                have hL : ([70, 71, 77, 78, 7, 8].map fun s => (a.put (some 70) (.slice (some ⟨u.heap.size, 0, none⟩) 1 1)).eval (.tmp s)) = [.slice (some ⟨u.heap.size, 0, none⟩) 1 1, a.eval (.tmp 71), a.eval (.tmp 77), a.eval (.tmp 78), a.eval (.tmp 7), a.eval (.tmp 8)] := by simp only [List.map_cons, List.map_nil, eval_put_eq (show 70 < a.tmps.size by rw [h.agree.2.1]; change 70 < 124; decide), eval_put_ne (show (71 : Nat) ≠ 70 by decide), eval_put_ne (show (77 : Nat) ≠ 70 by decide), eval_put_ne (show (78 : Nat) ≠ 70 by decide), eval_put_ne (show (7 : Nat) ≠ 70 by decide), eval_put_ne (show (8 : Nat) ≠ 70 by decide)]
                refine ⟨_, rfl, ?_⟩
                rw [hL]
                exact ⟨hj.lit1' hfi (hq 3 _ rfl rfl) rfl rfl, hr1, hr2, hr3, hr4⟩
              case o3 =>
                intro f a u h hfi hp hq hcl
                refine h.turn rfl rfl (some 71) rfl rfl ?_
                obtain ⟨hj, hr1, hr2, hr3, hr4⟩ := h.mem
                obtain ⟨q, el, hqb⟩ := hj.lit1 (pre_of hp 2 rfl) hfi
                replace el : a.eval (.tmp 70) = _ := el
                refine wp_append u (.tmp 68) (.tmp 70) 28 rfl B 35 (.agg (bv idNone ++ [Value.string ByteArray.empty]).toArray) 34 56 Tryd.underlying28 obI (by decide) (by decide) vo outs.length _ (h.at_ 0 rfl (pre_of hp 0 rfl)) (hj.out0 hfi) (some ⟨q, 0, none⟩) 1 1 (obC o) el (obC_len HO3.out) hqb.cells (obC_one o) (by simp only [maxLen]; omega) (by omega) hj.hB ?_
                intro v' u' ho' hg' hf'
                have hL : ([70, 71, 77, 78, 7, 8].map fun s => (a.put (some 71) (v')).eval (.tmp s)) = [a.eval (.tmp 70), v', a.eval (.tmp 77), a.eval (.tmp 78), a.eval (.tmp 7), a.eval (.tmp 8)] := by simp only [List.map_cons, List.map_nil, eval_put_eq (show 71 < a.tmps.size by rw [h.agree.2.1]; change 71 < 124; decide), eval_put_ne (show (70 : Nat) ≠ 71 by decide), eval_put_ne (show (77 : Nat) ≠ 71 by decide), eval_put_ne (show (78 : Nat) ≠ 71 by decide), eval_put_ne (show (7 : Nat) ≠ 71 by decide), eval_put_ne (show (8 : Nat) ≠ 71 by decide)]
                refine ⟨v', rfl, ?_⟩
                rw [hL]
                exact ⟨hj.app1' (pre_of hp 2 rfl) hfi rfl rfl hwB HNE.out (ownO_snoc ho') hg', hr1, fun hf => (by have h1 := hq 11 _ rfl rfl; rw [show f 11 = true from hf] at h1; cases h1), hr3, hr4⟩
              case o4 =>
                intro f a u h hfi hp hq hcl
                have e8 := h.mem.2.2.2.1 (hq 12 _ rfl rfl)
                replace e8 : a.eval (.tmp 8) = _ := e8
                have q8 := e8
                simp only [Act.eval, Array.getD_eq_getD_getElem?] at q8
                exact h.yield rfl rfl 72 rfl (by change 72 < 124; decide) rfl _ rfl (fun L hL => hL) (by go_simp)
              case o5 =>
                intro f a u h hfi hp hq hcl
                have q13 : a.tmps[13]?.getD undef = .string key := h.agree.att (by decide)
                exact h.yield rfl rfl 73 rfl (by change 73 < 124; decide) rfl _ rfl (fun L hL => hL) (by go_simp)
              case o6 =>
                intro f a u h hfi hp hq hcl
                have q11 : a.tmps[11]?.getD undef = .pointer (some ⟨g11, 0, none⟩) := h.agree.att (by decide)
                exact h.yield rfl rfl 74 rfl (by change 74 < 124; decide) rfl _ rfl (fun L hL => hL) (by go_simp)
              case o7 =>
                intro f a u h hfi hp hq hcl
                exact h.yield rfl rfl 75 rfl (by change 75 < 124; decide) rfl _ rfl (fun L hL => hL) (run_of_sem rfl (by rw [h.at_ 4 rfl (pre_of hp 6 rfl)]; exact ld_id HO3.out (ob_cells h.mem.1.box HO3.out).1))
              case o8 =>
                intro f a u h hfi hp hq hcl
                exact h.stepV rfl rfl 76 rfl (by change 76 < 124; decide) rfl _ rfl (wp_val (s := Instr.build 77 #[(0, a.eval (.tmp 73)), (1, a.eval (.tmp 75))]) (exec_build rfl (by rw [arr2])) (by rw [h.at_ 3 rfl (pre_of hp 5 rfl), h.at_ 5 rfl (pre_of hp 7 rfl)]; exact build_kid _ _ _ HO3.out) ⟨rfl, h.mem⟩)
              case o9 =>
                intro f a u h hfi hp hq hcl
                refine h.turn rfl rfl (some 77) rfl rfl ?_
                obtain ⟨hj, hr1, hr2, hr3, hr4⟩ := h.mem
                refine wp_val (exec_buildSlice rfl (by rw [arr1]; simp only [show a.eval (.tmp 76) = _ from (h.at_ 6 rfl (pre_of hp 8 rfl))])) (lit1_kid u key o.1 HO3.out) ?_
                have hL : ([70, 71, 77, 78, 7, 8].map fun s => (a.put (some 77) (.slice (some ⟨u.heap.size, 0, none⟩) 1 1)).eval (.tmp s)) = [a.eval (.tmp 70), a.eval (.tmp 71), .slice (some ⟨u.heap.size, 0, none⟩) 1 1, a.eval (.tmp 78), a.eval (.tmp 7), a.eval (.tmp 8)] := by simp only [List.map_cons, List.map_nil, eval_put_eq (show 77 < a.tmps.size by rw [h.agree.2.1]; change 77 < 124; decide), eval_put_ne (show (70 : Nat) ≠ 77 by decide), eval_put_ne (show (71 : Nat) ≠ 77 by decide), eval_put_ne (show (78 : Nat) ≠ 77 by decide), eval_put_ne (show (7 : Nat) ≠ 77 by decide), eval_put_ne (show (8 : Nat) ≠ 77 by decide)]
                refine ⟨_, rfl, ?_⟩
                rw [hL]
                exact ⟨hj.lit2' hfi (hq 10 _ rfl rfl) rfl rfl, hr1, hr2, hr3, hr4⟩
              case o10 =>
                intro f a u h hfi hp hq hcl
                refine h.turn rfl rfl (some 78) rfl rfl ?_
                obtain ⟨hj, hr1, hr2, hr3, hr4⟩ := h.mem
                obtain ⟨q, el, hqb⟩ := hj.lit2 (pre_of hp 9 rfl) hfi
                replace el : a.eval (.tmp 77) = _ := el
                refine wp_append u (.tmp 72) (.tmp 77) 71 rfl B 77 (.agg (Value.string ByteArray.empty :: bv idNone).toArray) 34 56 Tryd.underlying71 kdI (by decide) (by decide) vk ks.length _ (h.at_ 2 rfl (pre_of hp 4 rfl)) (hj.row0 hfi) (some ⟨q, 0, none⟩) 1 1 (kdC (key, o.1)) el (kdC_len HO3.out) hqb.cells (kdC_one _) (by simp only [maxLen]; omega) (by omega) hj.hB ?_
                intro v' u' ho' hg' hf'
                have hL : ([70, 71, 77, 78, 7, 8].map fun s => (a.put (some 78) (v')).eval (.tmp s)) = [a.eval (.tmp 70), a.eval (.tmp 71), a.eval (.tmp 77), v', a.eval (.tmp 7), a.eval (.tmp 8)] := by simp only [List.map_cons, List.map_nil, eval_put_eq (show 78 < a.tmps.size by rw [h.agree.2.1]; change 78 < 124; decide), eval_put_ne (show (70 : Nat) ≠ 78 by decide), eval_put_ne (show (71 : Nat) ≠ 78 by decide), eval_put_ne (show (77 : Nat) ≠ 78 by decide), eval_put_ne (show (7 : Nat) ≠ 78 by decide), eval_put_ne (show (8 : Nat) ≠ 78 by decide)]
                refine ⟨v', rfl, ?_⟩
                rw [hL]
                exact ⟨hj.app2' (pre_of hp 9 rfl) hfi rfl rfl hwB (ownK_snoc ho') hg', hr1, hr2, hr3, fun hf => (by have h1 := hq 12 _ rfl rfl; rw [show f 12 = true from hf] at h1; cases h1)⟩
              case o11 =>
                intro f a u h hfi hp hq hcl
                refine h.turn rfl rfl (some 7) rfl rfl ?_
                obtain ⟨hj, hr1, hr2, hr3, hr4⟩ := h.mem
                refine wp_yield (v := a.eval (.tmp 71)) (w' := u) (by go_simp) ?_
                have hL : ([70, 71, 77, 78, 7, 8].map fun s => (a.put (some 7) (a.eval (.tmp 71))).eval (.tmp s)) = [a.eval (.tmp 70), a.eval (.tmp 71), a.eval (.tmp 77), a.eval (.tmp 78), a.eval (.tmp 71), a.eval (.tmp 8)] := by simp only [List.map_cons, List.map_nil, eval_put_eq (show 7 < a.tmps.size by rw [h.agree.2.1]; change 7 < 124; decide), eval_put_ne (show (70 : Nat) ≠ 7 by decide), eval_put_ne (show (71 : Nat) ≠ 7 by decide), eval_put_ne (show (77 : Nat) ≠ 7 by decide), eval_put_ne (show (78 : Nat) ≠ 7 by decide), eval_put_ne (show (8 : Nat) ≠ 7 by decide)]
                refine ⟨_, rfl, ?_⟩
                rw [hL]
                exact ⟨hj, fun hf => (by cases hf), fun _ => rfl, hr3, hr4⟩
              case o12 =>
                intro f a u h hfi hp hq hcl
                refine h.turn rfl rfl (some 8) rfl rfl ?_
                obtain ⟨hj, hr1, hr2, hr3, hr4⟩ := h.mem
                refine wp_yield (v := a.eval (.tmp 78)) (w' := u) (by go_simp) ?_
                have hL : ([70, 71, 77, 78, 7, 8].map fun s => (a.put (some 8) (a.eval (.tmp 78))).eval (.tmp s)) = [a.eval (.tmp 70), a.eval (.tmp 71), a.eval (.tmp 77), a.eval (.tmp 78), a.eval (.tmp 7), a.eval (.tmp 78)] := by simp only [List.map_cons, List.map_nil, eval_put_eq (show 8 < a.tmps.size by rw [h.agree.2.1]; change 8 < 124; decide), eval_put_ne (show (70 : Nat) ≠ 8 by decide), eval_put_ne (show (71 : Nat) ≠ 8 by decide), eval_put_ne (show (77 : Nat) ≠ 8 by decide), eval_put_ne (show (78 : Nat) ≠ 8 by decide), eval_put_ne (show (7 : Nat) ≠ 8 by decide)]
                refine ⟨_, rfl, ?_⟩
                rw [hL]
                exact ⟨hj, hr1, hr2, fun hf => (by cases hf), fun _ => rfl⟩
            · intro f a u h hall hfar
              have hag := h.agree.out
              have hm := h.mem
              simp only [List.foldl_cons, List.foldl_nil, Act.put, List.setIfInBounds_toArray, List.set_cons_zero, List.set_cons_succ] at hag
              obtain ⟨hj, hr1, hr2, hr3, hr4⟩ := hm
              rw [hall 2 (by decide), hall 3 (by decide), hall 9 (by decide), hall 10 (by decide)] at hj
              have e7 := hr2 (hall 11 (by decide))
              have e8 := hr4 (hall 12 (by decide))
              replace e7 : a.eval (.tmp 7) = a.eval (.tmp 71) := e7
              replace e8 : a.eval (.tmp 8) = a.eval (.tmp 78) := e8
              have ho2 : OwnO B u (a.eval (.tmp 71)) (outs ++ [o]) := hj.out1 rfl
              have hk2 : OwnK B u (a.eval (.tmp 78)) (ks ++ [(key, o.1)]) := hj.row1 rfl
              have hxu := hj.ext
              have hBu := hj.hB
              rw [← e7] at ho2
              rw [← e8] at hk2
              clear hj hr1 hr2 hr3 hr4 e7 e8
              obtain ⟨vo2, hvo2⟩ : ∃ v, a.eval (.tmp 7) = v := ⟨_, rfl⟩
              obtain ⟨vk2, hvk2⟩ : ∃ v, a.eval (.tmp 8) = v := ⟨_, rfl⟩
              rw [hvo2] at hag ho2
              rw [hvk2] at hag hk2
              clear hvo2 hvk2
              generalize a.eval (.tmp 68) = y68 at hag
              generalize a.eval (.tmp 69) = y69 at hag
              generalize a.eval (.tmp 70) = y70 at hag
              generalize a.eval (.tmp 71) = y71 at hag
              generalize a.eval (.tmp 72) = y72 at hag
              generalize a.eval (.tmp 73) = y73 at hag
              generalize a.eval (.tmp 74) = y74 at hag
              generalize a.eval (.tmp 75) = y75 at hag
              generalize a.eval (.tmp 76) = y76 at hag
              generalize a.eval (.tmp 77) = y77 at hag
              generalize a.eval (.tmp 78) = y78 at hag
              clear h hall hfar
              subst hag
              have HO4 := Lib.hid ho2
              have HK4 := Lib.hid hk2
              clear ho2 hk2
              have HST2 : Hid (LeafSt k ps n (m + 4) (outs ++ [o]) (ks ++ [(key, o.1)])) := Lib.hid (leaf_step HST.out HN.out (by omega) HCD.out HO.out (by rw [HKEY.out]))
              clear HST HO HO3 c10
              go_wp2
              go_roundw
              case rel => exact ⟨m + 4, outs ++ [o], ks ++ [(key, o.1)], by go_num, by omega, HO4, HK4, HST2, hxu, hBu⟩
              case measure => simp [intOf] <;> omega
  
        · have hmni : ¬ (m : Int) < (n : Int) := by omega
          obtain ⟨ho1, hk1⟩ : outs = leafO k ps ∧ ks = leafR k ps := by
            rcases HST.out with ⟨h, _⟩ | ⟨_, h⟩
            · omega
            · exact h
          have HBT : Hid (buildT k ps = (outs ++ (upAll k ks).1, (upAll k ks).2)) := Lib.hid (by rw [ho1, hk1]; rfl)
          have HRO : Hid (RowOk k ks) := Lib.hid (by rw [hk1]; exact leafR_ok k hk0 _ ps (Nat.le_refl _) HP.out)
          have hks0 : ks.length ≠ 0 := by
            rw [hk1]
            unfold leafR
            rw [List.length_map, chunks_len _ ps (Nat.le_refl _)]
            omega
          have hsum : outs.length + 3 * ks.length ≤ 300 := by omega
          clear ho1 hk1 HST
          go_upto_region 20 with (fail)
          clear hm3 hmni hmn hm0i hm0
          go_loopg [8, 7] 70 (fun gk vk vo wr => ∃ (outs : List Ent2) (ks : List Kd), ks.length ≤ gk ∧ Hid (OwnO B wr vo outs) ∧ Hid (OwnK B wr vk ks) ∧ Hid (RowOk k ks) ∧ Hid (buildT k ps = (outs ++ (upAll k ks).1, (upAll k ks).2)) ∧ ks.length ≠ 0 ∧ ks.length ≤ 65 ∧ outs.length + 3 * ks.length ≤ 300 ∧ Ext w1 wr ∧ B ≤ wr.heap.size)
          case atStart => exact ⟨outs, ks, by omega, HOO, HOK, HRO, HBT, hks0, by omega, hsum, hx, hBw⟩
          case round =>
            clear HOO HOK HRO HBT hks0 hkl hol hsum hx hBw
            obtain ⟨outs, ks, hgk, HOO, HOK, HRO, HBT, hks0, hk65, hsum, hx, hBw⟩ := hrel
            obtain ⟨A0, c0, rfl, hc0, _, hcl0⟩ := HOK.out.form
            have HC0 := Lib.hid hcl0
            obtain ⟨vo, hvo⟩ : ∃ v, v = u7 := ⟨_, rfl⟩
            subst hvo
            obtain ⟨nk, hnk⟩ : ∃ x, ks.length = x := ⟨_, rfl⟩
            rw [hnk] at hgk hks0 hk65 hsum hc0 ⊢
            have HNK := Lib.hid hnk
            clear hcl0 hnk
            by_cases h1 : 1 < nk
            · have h1i : (1 : Int) < (nk : Int) := by omega
              obtain ⟨go, hgo⟩ : ∃ g, g = gk := ⟨_, rfl⟩
              subst hgo
              have HB2 : Hid (Blk wr g4 27 (bv idNone).toArray ∨ True) := Lib.hid (.inr trivial)
              clear HB2
              go_upto_region 22 with (fail)
              obtain ⟨B2, hB2e⟩ : ∃ b, b = wr.heap.size := ⟨_, rfl⟩
              have hBB2 : B ≤ B2 := by omega
              have hwB2 : w1.heap.size ≤ B2 := by omega
              have HLT0 : Hid (∀ x, A0 = some x → x.block < B2) := Lib.hid (fun x hx2 => by
                obtain ⟨y, e, hcc⟩ := HC0.out 0 (.string (headK ks)) (by
                  cases ks with
                  | nil => have := HNK.out; simp at this; omega
                  | cons a t => rfl)
                rw [hx2] at e
                cases e
                rw [hB2e]
                exact cell_lt hcc)
              have hB2w : B2 ≤ wr.heap.size := by omega
              have HSM0 : Hid (Same A0 A0) := Lib.hid (fun x hx => ⟨x, hx, rfl⟩)
              have HUL : Hid ((upRow k ks).1.length ≤ 65 ∧ (upRow k ks).2.length ≤ 65) := Lib.hid (by obtain ⟨hl1, hl2⟩ := upRow_len k _ ks (Nat.le_refl _) (by rw [HNK.out]; omega); rw [HNK.out] at hl1 hl2; omega)
              clear hB2e
              go_loopg [8, 7, 14] nk (fun gk vr vo vu wr => ∃ (d : Nat) (outs2 : List Ent2) (up : List Kd) (Ar : Option Addr) (m cr : Nat), vr = .slice Ar m cr ∧ d + m = nk ∧ m ≤ gk ∧ m ≤ cr ∧ m ≠ 1 ∧ Hid (OwnO B wr vo outs2) ∧ Hid (OwnK B2 wr vu up) ∧ Hid (OwnK B wr (.slice A0 ks.length c0) ks) ∧ Hid (Same A0 Ar) ∧ Hid (Cells wr Ar ((ks.drop d).map kdC).flatten) ∧ Hid (outs2 ++ (upRow k (ks.drop d)).1 = outs ++ (upRow k ks).1 ∧ up ++ (upRow k (ks.drop d)).2 = (upRow k ks).2) ∧ outs2.length + up.length ≤ 700 ∧ Ext w1 wr ∧ B2 ≤ wr.heap.size)
              case atStart => exact ⟨0, outs, [], A0, nk, c0, rfl, by omega, Nat.le_refl _, hc0, by omega, HOO, Lib.hid (OwnK.nil _ _), HOK, HSM0, HC0, Lib.hid ⟨rfl, rfl⟩, by show outs.length + 0 ≤ 700; omega, hx, hB2w⟩
              case round =>
                clear HC0 hx hB2w HSM0 HOO HOK
                obtain ⟨d, outs2, up, Ar, m, cr, rfl, hdm, hmg, hmc, hm1, HOO, HOU, HOK, HSM, HCE, HST, hou, hx, hBw2⟩ := hrel
                obtain ⟨vo, hvo⟩ : ∃ v, v = u7 := ⟨_, rfl⟩
                subst hvo
                obtain ⟨vu, hvu⟩ : ∃ v, v = u14 := ⟨_, rfl⟩
                subst hvu
                have hul : outs2.length ≤ 700 ∧ up.length ≤ 700 := by omega
                by_cases hm0 : m = 0
                · subst hm0
                  have hdn : d = nk := by omega
                  obtain ⟨hs1, hs2⟩ := HST.out
                  have hdr : ks.drop d = [] := List.drop_eq_nil_of_le (by rw [HNK.out]; omega)
                  rw [hdr, upRow_nil, List.append_nil] at hs1 hs2
                  have HUP := Lib.hid hs2
                  have HBT2 : Hid (buildT k ps = (outs2 ++ (upAll k up).1, (upAll k up).2)) := Lib.hid (by
                    rw [HBT.out, upAll_more k (show 1 < ks.length by rw [HNK.out]; exact h1), hs1, hs2, List.append_assoc])
                  have HRO2 : Hid (RowOk k up) := Lib.hid (by rw [hs2]; exact upRow_ok k hk0 _ ks (Nat.le_refl _) HRO.out)
                  obtain ⟨hl1, hl2⟩ := upRow_len k _ ks (Nat.le_refl _) (by rw [HNK.out]; omega)
                  have hul1 : up.length = (nk + 2) / 3 := by rw [hs2, hl1, HNK.out]
                  have hol1 : outs2.length = outs.length + (nk + 2) / 3 := by rw [hs1, List.length_append, hl2, HNK.out]
                  have HOU2 := Lib.hid (own_lower HOU.out hBB2 : OwnK B wr vu up)
                  clear hs1 hs2 hdr hl1 hl2
                  go_wp2
                  go_roundg (go - 1)
                  case measure => omega
                  case rel => exact ⟨outs2, up, by omega, HOO, HOU2, HRO2, HBT2, by omega, by omega, by omega, hx, by omega⟩
                · have hm2 : 2 ≤ m := by omega
                  have hm0i : (0 : Int) < (m : Int) := by omega
                  obtain ⟨q, hq⟩ : ∃ x, grp m = x := ⟨_, rfl⟩
                  have hq2 : 2 ≤ q := by rw [← hq]; exact grp_2 hm2
                  have hq3 : q ≤ 3 := by rw [← hq]; exact grp_3 m
                  have hqm : q ≤ m := by rw [← hq]; exact grp_le m
                  have hqr : m - q ≠ 1 := by rw [← hq]; exact grp_rest hm2
                  have hkm : (ks.drop d).length = m := by rw [List.length_drop, HNK.out]; omega
                  have HKM := Lib.hid hkm
                  obtain ⟨cc, hcc⟩ : ∃ x, x = (ks.drop d).take q := ⟨_, rfl⟩
                  have hcl : cc.length = q := by rw [hcc, List.length_take, hkm]; omega
                  have HCC := Lib.hid hcc
                  have HCL := Lib.hid hcl
                  have HRC : Hid (RowOk k cc) := Lib.hid (by rw [hcc]; exact (HRO.out.drop _).take _)
                  obtain ⟨o, ho⟩ : ∃ o, o = objT k (upT cc) := ⟨_, rfl⟩
                  have HO := Lib.hid ho
                  have HO3 : Hid (o.1.length = 33) := Lib.hid (by rw [ho]; exact (obj_id k hk0 _).1)
                  obtain ⟨key, hkey⟩ : ∃ s, headK (ks.drop d) = s := ⟨_, rfl⟩
                  have HKEY := Lib.hid hkey
                  have HSTEP : Hid (upRow k (ks.drop d) = (o :: (upRow k (ks.drop (d + q))).1, (key, o.1) :: (upRow k (ks.drop (d + q))).2)) := Lib.hid (by
                    rw [upRow_step k (show (ks.drop d).length ≠ 0 by rw [hkm]; omega), hkm, hq, ← hcc, ← ho, hkey, List.drop_drop])
                  have h33 : ∀ x ∈ ks.drop d, x.2.length = 33 := fun x hx => ((HRO.out.drop d).each x hx).2.1
                  have HROW : Hid (Row wr Ar 34 (cc.map kdC)) := Lib.hid (by
                    have h1 := Cells.sub (sz := 34) (w := wr) (A := Ar) (css := (ks.drop d).map kdC) 0 q (by rw [Nat.zero_mul, List.drop_zero]; exact HCE.out) (fun cs hcs => by obtain ⟨x, hx, rfl⟩ := List.mem_map.1 hcs; exact kdC_len (h33 x hx)) (by decide)
                    rw [List.drop_zero, ← List.map_take, ← hcc] at h1
                    exact h1)
                  have H33 := Lib.hid h33
                  have HNEO : Hid (∀ x, Ar = some x → some x.block ≠ vo.ownBlock) := Lib.hid (fun x hx2 e => by
                    obtain ⟨y, hy, hyx⟩ := HSM.out x hx2
                    have h3 := own_own_ne2 HOK.out HOO.out (by decide)
                    rcases HOK.out.2 with ⟨e0, hz⟩ | ⟨g1, cap, cur, e0, _⟩
                    · have := HNK.out; omega
                    · have e4 : A0 = some ⟨g1, 0, none⟩ := by injection e0
                      rw [e0] at h3
                      rw [e4] at hy
                      cases hy
                      rcases h3 with h3 | h3
                      · cases h3
                      · exact h3 (by rw [← e, hyx]; rfl))
                  have HNEU : Hid (∀ x, Ar = some x → some x.block ≠ vu.ownBlock) := Lib.hid (fun x hx2 e => by
                    obtain ⟨y, hy, hyx⟩ := HSM.out x hx2
                    have h4 := HLT0.out y hy
                    have h5 := (own_lt HOU.out e.symm).1
                    omega)
                  have HKLT : Hid (∀ j, (Value.slice A0 ks.length c0).ownBlock = some j → j < B2) := Lib.hid (fun j hj => by
                    rcases HOK.out.2 with ⟨e0, hz⟩ | ⟨g1, cap, cur, e0, _⟩
                    · have := HNK.out; omega
                    · have e4 : A0 = some ⟨g1, 0, none⟩ := by injection e0
                      have h4 := HLT0.out _ e4
                      rw [e4] at hj
                      cases hj
                      exact h4)
                  have HLTO : Hid (∀ j, vo.ownBlock = some j → j < wr.heap.size) := Lib.hid (fun j hj => (own_lt HOO.out hj).2)
                  have hq0i : (0 : Int) ≤ (q : Int) := by omega
                  have hqci : (q : Int) ≤ (cr : Int) := by omega
                  have hqmi : (q : Int) ≤ (m : Int) := by omega
                  have hqc : ¬ cr < q := by omega
                  have HGR := Lib.hid (group_calls m wr)
                  rw [hq] at HGR
                  clear hcc hcl ho hkey h33 hkm hq
                  go_upto_region 25 with (first
                    | (go_at_call 36; (with_reducible refine Calls.mono HGR.out ?_); rintro e w' ⟨rfl, rfl⟩)
                    | (go_at_call 35; (with_reducible refine Calls.mono (made_up k cc Ar q cr wr HROW.out HCL.out (by omega) hq2 hq3 HRC.out (HT.out.ext hx) o HO.out) ?_); rintro e w4 ⟨rfl, hx4⟩)
                    | (refine wpList_store_blk rfl 35 (.tmp 16) (.tmp 95) rfl rfl w4.heap.size (obC o).toArray rfl rfl _ _ (Blk.new w4 _ _) (by rw [List.size_toArray, obC_len HO3.out]; rfl) (by kernel_rfl) (fun v hv => obC_one o v (by simpa using hv)) ?_; intro w5 hb11 hg11; have hx45 : Ext w4 w5 := ((Ext.refl _).alloc _).grown_ hg11 (fun j e => by cases e; exact Nat.le_refl _)))
                  have hxr5 := hx4.trans hx45
                  have hx5 := hx.trans hxr5
                  have hB5 : B2 ≤ w5.heap.size := Nat.le_trans hBw2 hxr5.size
                  have hB5' : B ≤ w5.heap.size := Nat.le_trans hBB2 hB5
                  have HO5 := Lib.hid (HOO.out.ext hxr5)
                  have HU5 := Lib.hid (HOU.out.ext hxr5)
                  have HK5 := Lib.hid (HOK.out.ext hxr5)
                  have HC5 := Lib.hid (HCE.out.ext hxr5)
                  obtain ⟨g11, hg11e⟩ : ∃ g, g = w4.heap.size := ⟨_, rfl⟩
                  have HNE : Hid (∀ j, vo.ownBlock = some j → j ≠ g11) := Lib.hid (fun j hj => by have := HLTO.out j hj; have := hx4.size; omega)
                  rw [← hg11e] at hb11 ⊢
                  have HB11 := Lib.hid hb11
                  obtain ⟨X, hX⟩ : ∃ X, X = ((ks.drop d).map kdC).flatten := ⟨_, rfl⟩
                  rw [← hX] at HC5
                  have HXK : Hid (X[0]? = some (.string key)) := Lib.hid (by
                    rw [hX]
                    have h1 := HKEY.out
                    have h2 := HKM.out
                    cases hk : ks.drop d with
                    | nil => rw [hk, List.length_nil] at h2; omega
                    | cons a t => rw [hk] at h1; rw [← h1]; rfl)
                  have HXL : Hid (X.length = m * 34) := Lib.hid (by
                    rw [hX, flatten_len34 (fun cs hcs => by obtain ⟨x, hx, rfl⟩ := List.mem_map.1 hcs; exact kdC_len (H33.out x hx)), List.length_map, HKM.out])
                  have HXD : Hid (X.drop (q * 34) = ((ks.drop (d + q)).map kdC).flatten) := Lib.hid (by
                    rw [hX, flatten_drop34 (fun cs hcs => by obtain ⟨x, hx, rfl⟩ := List.mem_map.1 hcs; exact kdC_len (H33.out x hx)) q, ← List.map_drop, List.drop_drop])
                  obtain ⟨x0, hx0A, hx0c⟩ := HC5.out 0 _ HXK.out
                  subst hx0A
                  obtain ⟨A2, hA2⟩ : ∃ A2, A2 = (if cr = q then some x0 else (some x0).map (·.add (q * 34))) := ⟨_, rfl⟩
                  have HA2 := Lib.hid hA2
                  clear hb11 hg11 hg11e hx45 hx4 hX hx0c hA2
                  go_upto_region 27 with (fail)
                  refine wp_region_opsC (JInv [101, 102, 103, 104, 105, 106, 107, 108, 109, 110, 111, 112, 113, 114, 115, 116, 117, 7, 14, 8] _ [(0, 101, vo), (1, 102, .agg (obC o).toArray), (4, 105, vu), (5, 106, .slice (some x0) m cr), (6, 107, .pointer (some x0)), (7, 108, .pointer (some x0)), (8, 109, .string key), (9, 110, .pointer (some ⟨g11, 0, none⟩)), (10, 111, .agg (bv o.1).toArray), (11, 112, .agg (kdC (key, o.1)).toArray), (14, 115, .slice (some x0) m cr), (15, 116, .int .i64 (q : Int)), (16, 117, .slice A2 (m - q) (cr - q))] [103, 104, 113, 114, 7, 14, 8] (fun f L u => JT w1 B B2 g11 o outs2 vo (key, o.1) up vu (f 2) (f 3) (f 12) (f 13) (L.getD 0 undef) (L.getD 1 undef) (L.getD 2 undef) (L.getD 3 undef) u ∧ Cells u (some x0) X ∧ (f 17 = false → L.getD 4 undef = vo) ∧ (f 17 = true → L.getD 4 undef = L.getD 1 undef) ∧ (f 18 = false → L.getD 5 undef = vu) ∧ (f 18 = true → L.getD 5 undef = L.getD 3 undef) ∧ (f 19 = false → L.getD 6 undef = .slice (some x0) m cr) ∧ (f 19 = true → L.getD 6 undef = .slice A2 (m - q) (cr - q)) ∧ OwnK B u (.slice A0 ks.length c0) ks)) (by kernel_rfl) (by kernel_rfl) (JInv.start (⟨JT.start hx5.drew hB5' hB5 (HB11.out.ext (Ext.refl _).drew) (HO5.out.ext (Ext.refl _).drew) (HU5.out.ext (Ext.refl _).drew), HC5.out.ext (Ext.refl _).drew, fun _ => rfl, fun h => (by cases h), fun _ => rfl, fun h => (by cases h), fun _ => rfl, fun h => (by cases h), HK5.out.ext (Ext.refl _).drew⟩)) ?_ ?_
                  · refine ⟨?o0, ?o1, ?o2, ?o3, ?o4, ?o5, ?o6, ?o7, ?o8, ?o9, ?o10, ?o11, ?o12, ?o13, ?o14, ?o15, ?o16, ?o17, ?o18, ?o19, trivial⟩
                    case o0 =>
                      intro f a u h hfi hp hq hcl
                      have e7 := h.mem.2.2.1 (hq 17 _ rfl rfl)
                      replace e7 : a.eval (.tmp 7) = _ := e7
                      have q7 := e7
                      simp only [Act.eval, Array.getD_eq_getD_getElem?] at q7
                      exact h.yield rfl rfl 101 rfl (by change 101 < 124; decide) rfl _ rfl (fun L hL => hL) (by go_simp)
                    case o1 =>
                      intro f a u h hfi hp hq hcl
                      exact h.yield rfl rfl 102 rfl (by change 102 < 124; decide) rfl _ rfl (fun L hL => hL) (run_of_sem rfl (by rw [(show a.eval (.tmp 16) = .pointer (some ⟨g11, 0, none⟩) from h.agree.eval (by decide))]; exact run_load_blk h.mem.1.box Tryd.underlying35 rfl (by rw [List.size_toArray, obC_len HO3.out]; kernel_rfl)))
                    case o2 =>
                      intro f a u h hfi hp hq hcl
                      refine h.turn rfl rfl (some 103) rfl rfl ?_
                      obtain ⟨hj, hc, hr1, hr2, hr3, hr4, hr5, hr6, hk⟩ := h.mem
                      refine wp_val (exec_buildSlice rfl (by rw [arr1]; simp only [show a.eval (.tmp 102) = _ from (h.at_ 1 rfl (pre_of hp 1 rfl))])) (lit1_obj u o HO3.out) ?_
                      have hL : ([103, 104, 113, 114, 7, 14, 8].map fun s => (a.put (some 103) (.slice (some ⟨u.heap.size, 0, none⟩) 1 1)).eval (.tmp s)) = [.slice (some ⟨u.heap.size, 0, none⟩) 1 1, a.eval (.tmp 104), a.eval (.tmp 113), a.eval (.tmp 114), a.eval (.tmp 7), a.eval (.tmp 14), a.eval (.tmp 8)] := by simp only [List.map_cons, List.map_nil, eval_put_eq (show 103 < a.tmps.size by rw [h.agree.2.1]; change 103 < 124; decide), eval_put_ne (show (104 : Nat) ≠ 103 by decide), eval_put_ne (show (113 : Nat) ≠ 103 by decide), eval_put_ne (show (114 : Nat) ≠ 103 by decide), eval_put_ne (show (7 : Nat) ≠ 103 by decide), eval_put_ne (show (14 : Nat) ≠ 103 by decide), eval_put_ne (show (8 : Nat) ≠ 103 by decide)]
                      refine ⟨_, rfl, ?_⟩
                      rw [hL]
                      exact ⟨hj.lit1' hfi (hq 3 _ rfl rfl) rfl rfl, hc.ext ((Ext.refl u).alloc (.cells (obC o).toArray 35)), hr1, hr2, hr3, hr4, hr5, hr6, hk.ext ((Ext.refl u).alloc (.cells (obC o).toArray 35))⟩
                    case o3 =>
                      intro f a u h hfi hp hq hcl
                      refine h.turn rfl rfl (some 104) rfl rfl ?_
                      obtain ⟨hj, hc, hr1, hr2, hr3, hr4, hr5, hr6, hk⟩ := h.mem
                      obtain ⟨qq, el, hqb⟩ := hj.lit1 (pre_of hp 2 rfl) hfi
                      replace el : a.eval (.tmp 103) = _ := el
                      have hown := hj.out0 hfi
                      refine wp_append u (.tmp 101) (.tmp 103) 28 rfl B 35 (.agg (bv idNone ++ [Value.string ByteArray.empty]).toArray) 34 56 Tryd.underlying28 obI (by decide) (by decide) vo outs2.length _ (h.at_ 0 rfl (pre_of hp 0 rfl)) hown (some ⟨qq, 0, none⟩) 1 1 (obC o) el (obC_len HO3.out) hqb.cells (obC_one o) (by simp only [maxLen]; omega) (by omega) hj.hB ?_
                      intro v' u' ho' hg' hf'
                      have hL : ([103, 104, 113, 114, 7, 14, 8].map fun s => (a.put (some 104) (v')).eval (.tmp s)) = [a.eval (.tmp 103), v', a.eval (.tmp 113), a.eval (.tmp 114), a.eval (.tmp 7), a.eval (.tmp 14), a.eval (.tmp 8)] := by simp only [List.map_cons, List.map_nil, eval_put_eq (show 104 < a.tmps.size by rw [h.agree.2.1]; change 104 < 124; decide), eval_put_ne (show (103 : Nat) ≠ 104 by decide), eval_put_ne (show (113 : Nat) ≠ 104 by decide), eval_put_ne (show (114 : Nat) ≠ 104 by decide), eval_put_ne (show (7 : Nat) ≠ 104 by decide), eval_put_ne (show (14 : Nat) ≠ 104 by decide), eval_put_ne (show (8 : Nat) ≠ 104 by decide)]
                      refine ⟨v', rfl, ?_⟩
                      rw [hL]
                      exact ⟨hj.app1' (pre_of hp 2 rfl) hfi rfl rfl hwB HNE.out (ownO_snoc ho') hg', hc.grown hg' (fun x hx => HNEO.out x hx), hr1, fun hf => (by have h1 := hq 17 _ rfl rfl; rw [show f 17 = true from hf] at h1; cases h1), hr3, hr4, hr5, hr6, World.ownsRow.kept hk hg' (own_own_ne2 hk hown (by decide))⟩
                    case o4 =>
                      intro f a u h hfi hp hq hcl
                      have e14 := h.mem.2.2.2.2.1 (hq 18 _ rfl rfl)
                      replace e14 : a.eval (.tmp 14) = _ := e14
                      have q14 := e14
                      simp only [Act.eval, Array.getD_eq_getD_getElem?] at q14
                      exact h.yield rfl rfl 105 rfl (by change 105 < 124; decide) rfl _ rfl (fun L hL => hL) (by go_simp)
                    case o5 =>
                      intro f a u h hfi hp hq hcl
                      have e8 := h.mem.2.2.2.2.2.2.1 (hq 19 _ rfl rfl)
                      replace e8 : a.eval (.tmp 8) = _ := e8
                      have q8 := e8
                      simp only [Act.eval, Array.getD_eq_getD_getElem?] at q8
                      exact h.yield rfl rfl 106 rfl (by change 106 < 124; decide) rfl _ rfl (fun L hL => hL) (by go_simp)
                    case o6 =>
                      intro f a u h hfi hp hq hcl
                      have q106 := h.att 3 rfl (pre_of hp 5 rfl)
                      exact h.yield rfl rfl 107 rfl (by change 107 < 124; decide) rfl _ rfl (fun L hL => hL) (by go_simp)
                    case o7 =>
                      intro f a u h hfi hp hq hcl
                      have q107 := h.att 4 rfl (pre_of hp 6 rfl)
                      exact h.yield rfl rfl 108 rfl (by change 108 < 124; decide) rfl _ rfl (fun L hL => hL) (by go_simp)
                    case o8 =>
                      intro f a u h hfi hp hq hcl
                      have q108 := h.att 5 rfl (pre_of hp 7 rfl)
                      obtain ⟨z, hz, hzc⟩ := h.mem.2.1 0 _ HXK.out
                      cases hz
                      have hzz : u.cell? x0 = some (.string key) := hzc
                      exact h.yield rfl rfl 109 rfl (by change 109 < 124; decide) rfl _ rfl (fun L hL => hL) (by go_simp)
                    case o9 =>
                      intro f a u h hfi hp hq hcl
                      have q16 : a.tmps[16]?.getD undef = .pointer (some ⟨g11, 0, none⟩) := h.agree.att (by decide)
                      exact h.yield rfl rfl 110 rfl (by change 110 < 124; decide) rfl _ rfl (fun L hL => hL) (by go_simp)
                    case o10 =>
                      intro f a u h hfi hp hq hcl
                      exact h.yield rfl rfl 111 rfl (by change 111 < 124; decide) rfl _ rfl (fun L hL => hL) (run_of_sem rfl (by rw [h.at_ 7 rfl (pre_of hp 9 rfl)]; exact ld_id HO3.out (ob_cells h.mem.1.box HO3.out).1))
                    case o11 =>
                      intro f a u h hfi hp hq hcl
                      exact h.stepV rfl rfl 112 rfl (by change 112 < 124; decide) rfl _ rfl (wp_val (s := Instr.build 77 #[(0, a.eval (.tmp 109)), (1, a.eval (.tmp 111))]) (exec_build rfl (by rw [arr2])) (by rw [h.at_ 6 rfl (pre_of hp 8 rfl), h.at_ 8 rfl (pre_of hp 10 rfl)]; exact build_kid _ _ _ HO3.out) ⟨rfl, h.mem⟩)
                    case o12 =>
                      intro f a u h hfi hp hq hcl
                      refine h.turn rfl rfl (some 113) rfl rfl ?_
                      obtain ⟨hj, hc, hr1, hr2, hr3, hr4, hr5, hr6, hk⟩ := h.mem
                      refine wp_val (exec_buildSlice rfl (by rw [arr1]; simp only [show a.eval (.tmp 112) = _ from (h.at_ 9 rfl (pre_of hp 11 rfl))])) (lit1_kid u key o.1 HO3.out) ?_
                      have hL : ([103, 104, 113, 114, 7, 14, 8].map fun s => (a.put (some 113) (.slice (some ⟨u.heap.size, 0, none⟩) 1 1)).eval (.tmp s)) = [a.eval (.tmp 103), a.eval (.tmp 104), .slice (some ⟨u.heap.size, 0, none⟩) 1 1, a.eval (.tmp 114), a.eval (.tmp 7), a.eval (.tmp 14), a.eval (.tmp 8)] := by simp only [List.map_cons, List.map_nil, eval_put_eq (show 113 < a.tmps.size by rw [h.agree.2.1]; change 113 < 124; decide), eval_put_ne (show (103 : Nat) ≠ 113 by decide), eval_put_ne (show (104 : Nat) ≠ 113 by decide), eval_put_ne (show (114 : Nat) ≠ 113 by decide), eval_put_ne (show (7 : Nat) ≠ 113 by decide), eval_put_ne (show (14 : Nat) ≠ 113 by decide), eval_put_ne (show (8 : Nat) ≠ 113 by decide)]
                      refine ⟨_, rfl, ?_⟩
                      rw [hL]
                      exact ⟨hj.lit2' hfi (hq 13 _ rfl rfl) rfl rfl, hc.ext ((Ext.refl u).alloc (.cells (kdC (key, o.1)).toArray 77)), hr1, hr2, hr3, hr4, hr5, hr6, hk.ext ((Ext.refl u).alloc (.cells (kdC (key, o.1)).toArray 77))⟩
                    case o13 =>
                      intro f a u h hfi hp hq hcl
                      refine h.turn rfl rfl (some 114) rfl rfl ?_
                      obtain ⟨hj, hc, hr1, hr2, hr3, hr4, hr5, hr6, hk⟩ := h.mem
                      obtain ⟨qq, el, hqb⟩ := hj.lit2 (pre_of hp 12 rfl) hfi
                      replace el : a.eval (.tmp 113) = _ := el
                      have hown := hj.row0 hfi
                      refine wp_append u (.tmp 105) (.tmp 113) 71 rfl B2 77 (.agg (Value.string ByteArray.empty :: bv idNone).toArray) 34 56 Tryd.underlying71 kdI (by decide) (by decide) vu up.length _ (h.at_ 2 rfl (pre_of hp 4 rfl)) hown (some ⟨qq, 0, none⟩) 1 1 (kdC (key, o.1)) el (kdC_len HO3.out) hqb.cells (kdC_one _) (by simp only [maxLen]; omega) (by omega) hj.hBk ?_
                      intro v' u' ho' hg' hf'
                      have hL : ([103, 104, 113, 114, 7, 14, 8].map fun s => (a.put (some 114) (v')).eval (.tmp s)) = [a.eval (.tmp 103), a.eval (.tmp 104), a.eval (.tmp 113), v', a.eval (.tmp 7), a.eval (.tmp 14), a.eval (.tmp 8)] := by simp only [List.map_cons, List.map_nil, eval_put_eq (show 114 < a.tmps.size by rw [h.agree.2.1]; change 114 < 124; decide), eval_put_ne (show (103 : Nat) ≠ 114 by decide), eval_put_ne (show (104 : Nat) ≠ 114 by decide), eval_put_ne (show (113 : Nat) ≠ 114 by decide), eval_put_ne (show (7 : Nat) ≠ 114 by decide), eval_put_ne (show (14 : Nat) ≠ 114 by decide), eval_put_ne (show (8 : Nat) ≠ 114 by decide)]
                      refine ⟨v', rfl, ?_⟩
                      rw [hL]
                      exact ⟨hj.app2' (pre_of hp 12 rfl) hfi rfl rfl hwB2 (ownK_snoc ho') hg', hc.grown hg' (fun x hx => HNEU.out x hx), hr1, hr2, hr3, fun hf => (by have h1 := hq 18 _ rfl rfl; rw [show f 18 = true from hf] at h1; cases h1), hr5, hr6, World.ownsRow.kept hk hg' (by cases hv : (Value.slice A0 ks.length c0).ownBlock with | none => exact .inl rfl | some j => exact .inr (fun e => by have h8 := HKLT.out j hv; have h9 := (own_lt hown e.symm).1; omega))⟩
                    case o14 =>
                      intro f a u h hfi hp hq hcl
                      have e8 := h.mem.2.2.2.2.2.2.1 (hq 19 _ rfl rfl)
                      replace e8 : a.eval (.tmp 8) = _ := e8
                      have q8 := e8
                      simp only [Act.eval, Array.getD_eq_getD_getElem?] at q8
                      exact h.yield rfl rfl 115 rfl (by change 115 < 124; decide) rfl _ rfl (fun L hL => hL) (by go_simp)
                    case o15 =>
                      intro f a u h hfi hp hq hcl
                      have q15 : a.tmps[15]?.getD undef = .int .i64 (q : Int) := h.agree.att (by decide)
                      exact h.yield rfl rfl 116 rfl (by change 116 < 124; decide) rfl _ rfl (fun L hL => hL) (by go_simp)
                    case o16 =>
                      intro f a u h hfi hp hq hcl
                      exact h.yield rfl rfl 117 rfl (by change 117 < 124; decide) rfl _ rfl (fun L hL => hL) (run_of_sem rfl (by simp only [Option.map_some, Option.map_none, show a.eval (.tmp 115) = _ from (h.at_ 10 rfl (pre_of hp 14 rfl)), show a.eval (.tmp 116) = _ from (h.at_ 11 rfl (pre_of hp 15 rfl))]; rw [HA2.out]; exact run_slice_from (P := Tryd.prog) 71 77 Tryd.underlying71 34 kd_info (some x0) m cr q hqm hmc .i64))
                    case o17 =>
                      intro f a u h hfi hp hq hcl
                      refine h.turn rfl rfl (some 7) rfl rfl ?_
                      obtain ⟨hj, hc, hr1, hr2, hr3, hr4, hr5, hr6, hk⟩ := h.mem
                      refine wp_yield (v := a.eval (.tmp 104)) (w' := u) (by go_simp) ?_
                      have hL : ([103, 104, 113, 114, 7, 14, 8].map fun s => (a.put (some 7) (a.eval (.tmp 104))).eval (.tmp s)) = [a.eval (.tmp 103), a.eval (.tmp 104), a.eval (.tmp 113), a.eval (.tmp 114), a.eval (.tmp 104), a.eval (.tmp 14), a.eval (.tmp 8)] := by simp only [List.map_cons, List.map_nil, eval_put_eq (show 7 < a.tmps.size by rw [h.agree.2.1]; change 7 < 124; decide), eval_put_ne (show (103 : Nat) ≠ 7 by decide), eval_put_ne (show (104 : Nat) ≠ 7 by decide), eval_put_ne (show (113 : Nat) ≠ 7 by decide), eval_put_ne (show (114 : Nat) ≠ 7 by decide), eval_put_ne (show (14 : Nat) ≠ 7 by decide), eval_put_ne (show (8 : Nat) ≠ 7 by decide)]
                      refine ⟨_, rfl, ?_⟩
                      rw [hL]
                      exact ⟨hj, hc, fun hf => (by cases hf), fun _ => rfl, hr3, hr4, hr5, hr6, hk⟩
                    case o18 =>
                      intro f a u h hfi hp hq hcl
                      refine h.turn rfl rfl (some 14) rfl rfl ?_
                      obtain ⟨hj, hc, hr1, hr2, hr3, hr4, hr5, hr6, hk⟩ := h.mem
                      refine wp_yield (v := a.eval (.tmp 114)) (w' := u) (by go_simp) ?_
                      have hL : ([103, 104, 113, 114, 7, 14, 8].map fun s => (a.put (some 14) (a.eval (.tmp 114))).eval (.tmp s)) = [a.eval (.tmp 103), a.eval (.tmp 104), a.eval (.tmp 113), a.eval (.tmp 114), a.eval (.tmp 7), a.eval (.tmp 114), a.eval (.tmp 8)] := by simp only [List.map_cons, List.map_nil, eval_put_eq (show 14 < a.tmps.size by rw [h.agree.2.1]; change 14 < 124; decide), eval_put_ne (show (103 : Nat) ≠ 14 by decide), eval_put_ne (show (104 : Nat) ≠ 14 by decide), eval_put_ne (show (113 : Nat) ≠ 14 by decide), eval_put_ne (show (114 : Nat) ≠ 14 by decide), eval_put_ne (show (7 : Nat) ≠ 14 by decide), eval_put_ne (show (8 : Nat) ≠ 14 by decide)]
                      refine ⟨_, rfl, ?_⟩
                      rw [hL]
                      exact ⟨hj, hc, hr1, hr2, fun hf => (by cases hf), fun _ => rfl, hr5, hr6, hk⟩
                    case o19 =>
                      intro f a u h hfi hp hq hcl
                      refine h.turn rfl rfl (some 8) rfl rfl ?_
                      obtain ⟨hj, hc, hr1, hr2, hr3, hr4, hr5, hr6, hk⟩ := h.mem
                      refine wp_yield (v := a.eval (.tmp 117)) (w' := u) (by go_simp) ?_
                      have hL : ([103, 104, 113, 114, 7, 14, 8].map fun s => (a.put (some 8) (a.eval (.tmp 117))).eval (.tmp s)) = [a.eval (.tmp 103), a.eval (.tmp 104), a.eval (.tmp 113), a.eval (.tmp 114), a.eval (.tmp 7), a.eval (.tmp 14), a.eval (.tmp 117)] := by simp only [List.map_cons, List.map_nil, eval_put_eq (show 8 < a.tmps.size by rw [h.agree.2.1]; change 8 < 124; decide), eval_put_ne (show (103 : Nat) ≠ 8 by decide), eval_put_ne (show (104 : Nat) ≠ 8 by decide), eval_put_ne (show (113 : Nat) ≠ 8 by decide), eval_put_ne (show (114 : Nat) ≠ 8 by decide), eval_put_ne (show (7 : Nat) ≠ 8 by decide), eval_put_ne (show (14 : Nat) ≠ 8 by decide)]
                      refine ⟨_, rfl, ?_⟩
                      have e117 := (h.at_ 12 rfl (pre_of hp 16 rfl))
                      rw [hL]
                      exact ⟨hj, hc, hr1, hr2, hr3, hr4, fun hf => (by cases hf), fun _ => e117, hk⟩
                  · intro f a u h hall hfar
                    have hag := h.agree.out
                    have hm := h.mem
                    simp only [List.foldl_cons, List.foldl_nil, Act.put, List.setIfInBounds_toArray, List.set_cons_zero, List.set_cons_succ] at hag
                    obtain ⟨hj, hc, hr1, hr2, hr3, hr4, hr5, hr6, hk⟩ := hm
                    rw [hall 2 (by decide), hall 3 (by decide), hall 12 (by decide), hall 13 (by decide)] at hj
                    have e7 := hr2 (hall 17 (by decide))
                    have e14 := hr4 (hall 18 (by decide))
                    have e8 := hr6 (hall 19 (by decide))
                    replace e7 : a.eval (.tmp 7) = a.eval (.tmp 104) := e7
                    replace e14 : a.eval (.tmp 14) = a.eval (.tmp 114) := e14
                    replace e8 : a.eval (.tmp 8) = .slice A2 (m - q) (cr - q) := e8
                    have ho2 : OwnO B u (a.eval (.tmp 104)) (outs2 ++ [o]) := hj.out1 rfl
                    have hk2 : OwnK B2 u (a.eval (.tmp 114)) (up ++ [(key, o.1)]) := hj.row1 rfl
                    have hxu := hj.ext
                    have hBu := hj.hBk
                    rw [← e7] at ho2
                    rw [← e14] at hk2
                    rw [e8] at hag
                    have hcut := cut_cells (c := cr) (k := q) hc HXL.out hqm hmc
                    rw [← HA2.out, HXD.out] at hcut
                    clear hj hr1 hr2 hr3 hr4 hr5 hr6 e7 e8 e14
                    obtain ⟨vo2, hvo2⟩ : ∃ v, a.eval (.tmp 7) = v := ⟨_, rfl⟩
                    obtain ⟨vu2, hvu2⟩ : ∃ v, a.eval (.tmp 14) = v := ⟨_, rfl⟩
                    rw [hvo2] at hag ho2
                    rw [hvu2] at hag hk2
                    clear hvo2 hvu2
                    generalize a.eval (.tmp 101) = y101 at hag
                    generalize a.eval (.tmp 102) = y102 at hag
                    generalize a.eval (.tmp 103) = y103 at hag
                    generalize a.eval (.tmp 104) = y104 at hag
                    generalize a.eval (.tmp 105) = y105 at hag
                    generalize a.eval (.tmp 106) = y106 at hag
                    generalize a.eval (.tmp 107) = y107 at hag
                    generalize a.eval (.tmp 108) = y108 at hag
                    generalize a.eval (.tmp 109) = y109 at hag
                    generalize a.eval (.tmp 110) = y110 at hag
                    generalize a.eval (.tmp 111) = y111 at hag
                    generalize a.eval (.tmp 112) = y112 at hag
                    generalize a.eval (.tmp 113) = y113 at hag
                    generalize a.eval (.tmp 114) = y114 at hag
                    generalize a.eval (.tmp 115) = y115 at hag
                    generalize a.eval (.tmp 116) = y116 at hag
                    generalize a.eval (.tmp 117) = y117 at hag
                    clear h hall hfar
                    subst hag
                    have HO6 := Lib.hid ho2
                    have HU6 := Lib.hid hk2
                    have HK6 := Lib.hid hk
                    have HC6 := Lib.hid hcut.1
                    have HSM6 : Hid (Same A0 A2) := Lib.hid (fun x hx => by
                      obtain ⟨y, hy, hyx⟩ := hcut.2 x hx
                      obtain ⟨z, hz, hzy⟩ := HSM.out y hy
                      exact ⟨z, hz, hyx.trans hzy⟩)
                    have HST6 : Hid ((outs2 ++ [o]) ++ (upRow k (ks.drop (d + q))).1 = outs ++ (upRow k ks).1 ∧ (up ++ [(key, o.1)]) ++ (upRow k (ks.drop (d + q))).2 = (upRow k ks).2) := Lib.hid (by
                      obtain ⟨h1, h2⟩ := HST.out
                      rw [HSTEP.out] at h1 h2
                      exact ⟨by rw [← h1, List.append_assoc]; rfl, by rw [← h2, List.append_assoc]; rfl⟩)
                    clear ho2 hk2 hk hcut hc HST HSTEP HSM
                    go_wp2
                    go_roundg (gk - 1)
                    case measure => omega
                    case rel => exact ⟨d + q, outs2 ++ [o], up ++ [(key, o.1)], A2, m - q, cr - q, rfl, by omega, by omega, by omega, hqr, HO6, HU6, HK6, HSM6, HC6, HST6, by have a1 := congrArg List.length HST6.out.1; have a2 := congrArg List.length HST6.out.2; have a3 := HUL.out; simp only [List.length_append] at a1 a2 ⊢; omega, hxu, hBu⟩
  
            · have h1i : ¬ (1 : Int) < (nk : Int) := by omega
              have hnk1 : nk = 1 := by omega
              obtain ⟨x, rfl⟩ : ∃ x, ks = [x] := List.length_eq_one_iff.1 (by rw [HNK.out, hnk1])
              have hx33 := (HRO.out.each x (by simp)).2.1
              have HFIN : Hid ((buildT k ps).1 = outs ∧ (buildT k ps).2 = x.2) := Lib.hid (by
                rw [HBT.out, upAll_one k (show ¬ 1 < [x].length from by simp)]
                exact ⟨List.append_nil _, rfl⟩)
              obtain ⟨xa, hxa, r0, r1, _⟩ := kd_row (ks := [x]) (HOK.out.row (fun y hy => (HRO.out.each y hy).2.1)) (i := 0) (by simp)
              subst hxa
              have r1' : Cells wr (some (xa.add 1)) (bv x.2) := r1
              have HR1 := Lib.hid r1'
              have hp0 : (0 : Int) < (nk : Int) := by omega
              have hid33 : (bv x.2).length = 33 := by rw [bv_length]; exact hx33
              have HI33 := Lib.hid hid33
              have HBZ := Lib.hid (HB4.out.ext hx)
              have HHK := Lib.hid hk0
              have hA34 : ∀ j v, (bv x.2)[j]? = some v → wr.cell? ((xa.add 1).add j) = some v := fun j v hj => by
                obtain ⟨y, hy, hyc⟩ := HR1.out j v hj
                cases hy
                exact hyc
              have HA34 := Lib.hid hA34
              clear r0 r1 r1' hA34 hid33
              go_wp2_with (first
                | (refine wpList_load_row_ rfl 27 (.tmp 121) rfl (xa.add 1) rfl (bv x.2) _ HA34.out Tryd.underlying27 rfl (by rw [HI33.out]; kernel_rfl) ?_)
                | (refine wpList_store_blk rfl 27 (.tmp 4) (.tmp 122) rfl rfl g4 (bv x.2).toArray rfl rfl 27 (bv idNone).toArray HBZ.out (by rw [List.size_toArray, HI33.out]; rfl) (by kernel_rfl) (by intro v hv; rw [List.toList_toArray] at hv; exact bv_cells _ v hv) ?_; intro wz hbz hgz; have hxz := (hx1.trans hx).grown_ hgz (fun j e => by cases e; exact hg4); have HOZ := Lib.hid (own_past HOO.out hgz (fun j e => by cases e; exact hg4B))))
              refine bodyPost_ret (results_row_tmp2 (P := Tryd.prog) (fn := Tryd.f12) rfl _ _ g4 27 (bv x.2).toArray _ rfl hbz Tryd.underlying27 rfl (by rw [List.size_toArray, HI33.out]; kernel_rfl)) rfl ?_
              exact BuildP.ok HHK.out HG1.out HFIN.out.2 (by rw [HFIN.out.1]; exact own_lower HOZ.out hw0B) hxz
end Go.Proofs.YtcnhbodemabbdaaDoor
