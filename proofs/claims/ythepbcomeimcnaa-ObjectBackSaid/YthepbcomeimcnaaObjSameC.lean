/- Pairs compared. -/
import Derived.Test.YthepbcomeimcnaaObjRefC
namespace Go.Proofs.Ythepbcomeimcnaa
open Go.RowKit
set_option linter.unusedVariables false

theorem pair_held : Try.prog.stoodInHeld 43 = false := by kernel_rfl
theorem pair_under : Try.prog.underlying 43 = some (.struct (Try.prog.fieldsOf 43)) := by
  unfold Program.fieldsOf
  rw [Try.underlying43]
theorem pair_fields : (Try.prog.fieldsOf 43).toList.map (fun f => (f.name == "_", f.type, f.offset)) = [(false, 9, 0), (false, 9, 1)] := by kernel_rfl
theorem pair_equal_d (d : Nat) (p q : Pr) (w : World) : (Op.equalIn (d + 2) 43 (.agg (prC p).toArray) (.agg (prC q).toArray)).run Try.prog w = .ok (p.1.toList == q.1.toList && p.2.toList == q.2.toList) w := by
  rw [run_equalIn_struct w (d + 1) 43 _ _ pair_under pair_held]
  have hf := pair_fields
  generalize (Try.prog.fieldsOf 43).toList = l at hf ⊢
  have h := congrArg List.length hf
  rw [List.length_map] at h
  rcases l with _ | ⟨f0, _ | ⟨f1, _ | ⟨f2, l⟩⟩⟩
  · cases h
  · cases h
  · simp only [List.map_cons, List.map_nil, List.cons.injEq, Prod.mk.injEq, and_true, beq_eq_false_iff_ne, ne_eq] at hf
    obtain ⟨⟨n0, t0, o0⟩, ⟨n1, t1, o1⟩⟩ := hf
    have p0 : ∀ r : Pr, (part 9 (prC r).toArray 0).run Try.prog w = .ok (.string r.1) w := by
      intro r
      simp [part, isAgg, run_underlying Try.underlying9, prC]
    have p1 : ∀ r : Pr, (part 9 (prC r).toArray 1).run Try.prog w = .ok (.string r.2) w := by
      intro r
      simp [part, isAgg, run_underlying Try.underlying9, prC]
    have h0 := run_equalIn_string (P := Try.prog) w d 9 p.1 q.1 Try.underlying9
    have h1 := run_equalIn_string (P := Try.prog) w d 9 p.2 q.2 Try.underlying9
    simp only [Op.eqFields, ne_eq, n0, n1, not_false_eq_true, if_true, t0, t1, o0, o1, Sem.run_bind, p0, p1, h0, Result.andThen_ok]
    generalize (p.1.toList == q.1.toList) = z
    cases z
    · rw [if_pos (by decide), Sem.run_pure, Bool.false_and]
    · rw [if_neg (by decide), Sem.run_bind, p1, Result.andThen_ok, Sem.run_bind, p1, Result.andThen_ok, Sem.run_bind, h1, Result.andThen_ok, Bool.true_and]
      generalize (p.2.toList == q.2.toList) = z
      cases z
      · rw [if_pos (by decide), Sem.run_pure]
      · rw [if_neg (by decide), Sem.run_pure]
  · simp at h
theorem pair_equal (p q : Pr) (w : World) : (Op.equalIn 10000 43 (.agg (prC p).toArray) (.agg (prC q).toArray)).run Try.prog w = .ok (p.1.toList == q.1.toList && p.2.toList == q.2.toList) w := pair_equal_d 9998 p q w
theorem ix_pair {w : World} {a : Addr} {n c i : Nat} {z : Int} (hz : z = (i : Int)) (h : i < n) : (Instr.indexAt 22 (.slice (some a) n c) (.int .i64 z)).run Try.prog w = .ok (.pointer (some (a.add (i * 2)))) w := by
  subst hz
  have h1 : (0 : Int) ≤ (i : Int) := by omega
  have h2 : (i : Int) < (n : Int) := by omega
  go_simp
theorem ld_pair {w : World} {p : Addr} {r : Pr} (h0 : w.cell? p = some (.string r.1)) (h1 : w.cell? (p.add 1) = some (.string r.2)) : (Instr.loadAt 43 (.pointer (some p))).run Try.prog w = .ok (.agg (prC r).toArray) w :=
  run_loadAt_row w p 43 (prC r) _ (fun j v hj => by
    match j, hj with
    | 0, hj => cases hj; exact h0
    | 1, hj => cases hj; exact h1
    | n + 2, hj => cases hj) Try.underlying43 rfl pr_info
set_option maxRecDepth 100000 in
set_option maxHeartbeats 4000000 in
theorem same_calls (ps : List Pr) (pa pb : Option Addr) (P pc pd : Nat) (w : World) (hp : ps.length = P) (h1 : Row w pa 2 (ps.map prC)) (h2 : Row w pb 2 (ps.map prC)) (hb : P ≤ 140737488351232) :
    Calls Try.prog 28 #[.slice pa P pc, .slice pb P pd] w fun e w' => e = .returned (.bool true) ∧ Ext w w' := by
  have H1 := Lib.hid h1
  have H2 := Lib.hid h2
  have HP := Lib.hid hp
  clear h1 h2 hp
  go_enter Try.func28, Try.ntmps28
  go_wp2
  go_loopw [13, 4] (fun i v wr => ∃ (k : Nat), k ≤ P ∧ i = .int .i64 k ∧ Ext w wr) (fun i _ _ => P - (intOf i).toNat)
  case atStart => exact ⟨0, Nat.zero_le _, rfl, Ext.refl _⟩
  case round =>
    obtain ⟨k, hk, rfl, hx⟩ := hrel
    by_cases hlt : k < P
    · have hkl : k < ps.length := by rw [HP.out]; exact hlt
      obtain ⟨x, rfl, r0, r1⟩ := pr_row (H1.out.ext hx) hkl
      obtain ⟨y, rfl, s0, s1⟩ := pr_row (H2.out.ext hx) hkl
      generalize ps[k] = p at r0 r1 s0 s1
      obtain ⟨cs, hcs⟩ : ∃ cs, cs = (prC p).toArray := ⟨_, rfl⟩
      have z := fun u => pair_equal p p u
      simp only [beq_self_eq_true, Bool.and_self, ← hcs] at z
      have HCS := Lib.hid hcs
      clear hcs
      go_upto_region 6 with (fail)
      refine wp_region_ops (FInv [16, 17, 18, 19, 20, 21, 22, 23, 24] _ wr.drew [⟨0, none, 16, .val (.slice (some x) P pc)⟩, ⟨1, none, 17, .val (.int .i64 (k : Int))⟩, ⟨2, none, 18, .val (.pointer (some (x.add (k * 2))))⟩, ⟨3, none, 19, .val (.agg cs)⟩, ⟨4, none, 20, .val (.slice (some y) P pd)⟩, ⟨5, none, 21, .val (.int .i64 (k : Int))⟩, ⟨6, none, 22, .val (.pointer (some (y.add (k * 2))))⟩, ⟨7, none, 23, .val (.agg cs)⟩, ⟨8, none, 24, .val (.bool false)⟩]) (by kernel_rfl) (by kernel_rfl) FInv.start ?_ ?_
      · refine ⟨?o0, ?o1, ?o2, ?o3, ?o4, ?o5, ?o6, ?o7, ?o8, trivial⟩
        case o0 =>
          intro f a u h hfi hp hq
          have q0 : a.tmps[0]?.getD undef = .slice (some x) P pc := h.agree.att (by decide)
          exact h.yieldG rfl (wanted_none rfl) 16 rfl (by change 16 < 26; decide) rfl _ rfl (by go_simp)
        case o1 =>
          intro f a u h hfi hp hq
          have q5 : a.tmps[5]?.getD undef = .int .i64 (k : Int) := h.agree.att (by decide)
          exact h.yieldG rfl (wanted_none rfl) 17 rfl (by change 17 < 26; decide) rfl _ rfl (by go_simp)
        case o2 =>
          intro f a u h hfi hp hq
          exact h.yieldG rfl (wanted_none rfl) 18 rfl (by change 18 < 26; decide) rfl _ rfl (run_of_sem rfl (by rw [h.at_ 0 rfl (pre_of hp 0 rfl), h.at_ 1 rfl (pre_of hp 1 rfl)]; exact ix_pair rfl hlt))
        case o3 =>
          intro f a u h hfi hp hq
          have hyu : Ext wr u := ((Ext.refl wr).drew).trans h.ext
          exact h.yieldG rfl (wanted_none rfl) 19 rfl (by change 19 < 26; decide) rfl _ rfl (run_of_sem rfl (by rw [h.at_ 2 rfl (pre_of hp 2 rfl), HCS.out]; exact ld_pair (hyu.cell r0) (hyu.cell r1)))
        case o4 =>
          intro f a u h hfi hp hq
          have q1 : a.tmps[1]?.getD undef = .slice (some y) P pd := h.agree.att (by decide)
          exact h.yieldG rfl (wanted_none rfl) 20 rfl (by change 20 < 26; decide) rfl _ rfl (by go_simp)
        case o5 =>
          intro f a u h hfi hp hq
          have q5 : a.tmps[5]?.getD undef = .int .i64 (k : Int) := h.agree.att (by decide)
          exact h.yieldG rfl (wanted_none rfl) 21 rfl (by change 21 < 26; decide) rfl _ rfl (by go_simp)
        case o6 =>
          intro f a u h hfi hp hq
          exact h.yieldG rfl (wanted_none rfl) 22 rfl (by change 22 < 26; decide) rfl _ rfl (run_of_sem rfl (by rw [h.at_ 4 rfl (pre_of hp 4 rfl), h.at_ 5 rfl (pre_of hp 5 rfl)]; exact ix_pair rfl hlt))
        case o7 =>
          intro f a u h hfi hp hq
          have hyu : Ext wr u := ((Ext.refl wr).drew).trans h.ext
          exact h.yieldG rfl (wanted_none rfl) 23 rfl (by change 23 < 26; decide) rfl _ rfl (run_of_sem rfl (by rw [h.at_ 6 rfl (pre_of hp 6 rfl), HCS.out]; exact ld_pair (hyu.cell s0) (hyu.cell s1)))
        case o8 =>
          intro f a u h hfi hp hq
          have q19 := h.att 3 rfl (pre_of hp 3 rfl)
          have q23 := h.att 7 rfl (pre_of hp 7 rfl)
          have z := z u
          exact h.yieldG rfl (wanted_none rfl) 24 rfl (by change 24 < 26; decide) rfl _ rfl (by go_simp)
      · intro f a u h hall hfar
        have e24 := h.at_ 8 rfl (hall 8 (by decide))
        have hyu : Ext wr u := ((Ext.refl wr).drew).trans h.ext
        have hag := h.agree.out
        simp only [List.foldl_cons, List.foldl_nil, Act.put, List.setIfInBounds_toArray, List.set_cons_zero, List.set_cons_succ] at hag
        rw [e24] at hag
        clear e24
        generalize a.eval (.tmp 16) = y16 at hag
        generalize a.eval (.tmp 17) = y17 at hag
        generalize a.eval (.tmp 18) = y18 at hag
        generalize a.eval (.tmp 19) = y19 at hag
        generalize a.eval (.tmp 20) = y20 at hag
        generalize a.eval (.tmp 21) = y21 at hag
        generalize a.eval (.tmp 22) = y22 at hag
        generalize a.eval (.tmp 23) = y23 at hag
        clear h hall r0 r1 s0 s1
        subst hag
        go_wp2
        go_roundw
        case rel => exact ⟨k + 1, by omega, by go_num, hx.trans hyu⟩
        case measure => simp [intOf]; omega
    · obtain rfl : k = P := by omega
      go_wp2
      go_ret
      exact ⟨rfl, hx⟩

theorem kid_held : Try.prog.stoodInHeld 59 = false := by kernel_rfl
theorem kid_under : Try.prog.underlying 59 = some (.struct (Try.prog.fieldsOf 59)) := by
  unfold Program.fieldsOf
  rw [Try.underlying59]
theorem kid_fields : (Try.prog.fieldsOf 59).toList.map (fun f => (f.name == "_", f.type, f.offset)) = [(false, 9, 0), (false, 28, 1)] := by kernel_rfl
theorem size_id (w : World) : (sizeOf 28).run Try.prog w = .ok 33 w := by go_simp
/-- A kid is itself. -/
theorem kid_equal_d (d : Nat) (p : Kd) (hp : p.2.length = 33) (w : World) : (Op.equalIn (d + 4) 59 (.agg (kdC p).toArray) (.agg (kdC p).toArray)).run Try.prog w = .ok true w := by
  rw [run_equalIn_struct w (d + 3) 59 _ _ kid_under kid_held]
  have hf := kid_fields
  generalize (Try.prog.fieldsOf 59).toList = l at hf ⊢
  have h := congrArg List.length hf
  rw [List.length_map] at h
  rcases l with _ | ⟨f0, _ | ⟨f1, _ | ⟨f2, l⟩⟩⟩
  · cases h
  · cases h
  · simp only [List.map_cons, List.map_nil, List.cons.injEq, Prod.mk.injEq, and_true, beq_eq_false_iff_ne, ne_eq] at hf
    obtain ⟨⟨n0, t0, o0⟩, ⟨n1, t1, o1⟩⟩ := hf
    have p0 : (part 9 (kdC p).toArray 0).run Try.prog w = .ok (.string p.1) w := by
      simp [part, isAgg, run_underlying Try.underlying9, kdC]
    have p1 : (part 28 (kdC p).toArray 1).run Try.prog w = .ok (.agg (bv p.2).toArray) w := by
      have e : (kdC p).toArray.extract 1 (1 + 33) = (bv p.2).toArray := by
        apply Array.ext'
        rw [Array.toList_extract, List.toList_toArray, List.toList_toArray, List.extract_eq_drop_take']
        show ((Value.string p.1 :: bv p.2).take 34).drop 1 = bv p.2
        rw [List.take_succ_cons, List.drop_succ_cons, List.drop_zero, List.take_of_length_le (by rw [bv_len]; omega)]
      have hsz := size_id w
      simp only [part, isAgg, Sem.run_bind, run_underlying Try.underlying28, Result.andThen_ok, Sem.run_pure, if_true, hsz, e]
    have h0 := run_equalIn_string (P := Try.prog) w (d + 2) 9 p.1 p.1 Try.underlying9
    have h1 := id_equal_d d p.2 p.2 hp hp w
    rw [beq_self_eq_true] at h0 h1
    simp only [Op.eqFields, ne_eq, n0, n1, not_false_eq_true, if_true, t0, t1, o0, o1, Sem.run_bind, p0, h0, Result.andThen_ok]
    rw [if_neg (by decide), Sem.run_bind, p1, Result.andThen_ok, Sem.run_bind, p1, Result.andThen_ok, Sem.run_bind, h1, Result.andThen_ok, if_neg (by decide), Sem.run_pure]
  · simp at h
theorem kid_equal (p : Kd) (hp : p.2.length = 33) (w : World) : (Op.equalIn 10000 59 (.agg (kdC p).toArray) (.agg (kdC p).toArray)).run Try.prog w = .ok true w := kid_equal_d 9996 p hp w

theorem ld_kid {w : World} {p : Addr} {r : Kd} (hr : r.2.length = 33) (h : ∀ j v, (kdC r)[j]? = some v → w.cell? (p.add j) = some v) : (Instr.loadAt 59 (.pointer (some p))).run Try.prog w = .ok (.agg (kdC r).toArray) w :=
  run_loadAt_row w p 59 (kdC r) _ h Try.underlying59 rfl (by rw [kd_info, kdC_len hr])
set_option maxRecDepth 100000 in
set_option maxHeartbeats 8000000 in
theorem sameTree_calls (t : Tr) (pa ka pb kb : Option Addr) (P K pc kc pd kd : Nat) (w : World) (h : TrAt w t pa ka P K pc kc) (h' : TrAt w t pb kb P K pd kd) :
    Calls Try.prog 13 #[tra pa P pc ka K kc, tra pb P pd kb K kd] w fun e w' => e = .returned (.bool true) ∧ Ext w w' := by
  have Hh := Lib.hid h
  have Hk := Lib.hid h'
  have hbp := h.bp
  have hbk := h.bk
  clear h h'
  go_enter Try.func13, Try.ntmps13
  obtain ⟨w0, hw0⟩ : ∃ w0, w0 = (w.alloc (.cells #[.slice pa P pc, .slice ka K kc] 25)).alloc (.cells #[.slice pb P pd, .slice kb K kd] 25) := ⟨_, rfl⟩
  have hx0 : Ext w w0 := by rw [hw0]; exact ((Ext.refl _).alloc _).alloc _
  have Hba := Lib.hid (show Blk w0 w.heap.size 25 #[.slice pa P pc, .slice ka K kc] from by rw [hw0]; exact (Blk.new w _ _).ext ((Ext.refl _).alloc _))
  have Hbb := Lib.hid (show Blk w0 (w.heap.size + 1) 25 #[.slice pb P pd, .slice kb K kd] from by rw [hw0]; have e := Blk.new (w.alloc (.cells #[.slice pa P pc, .slice ka K kc] 25)) 25 #[.slice pb P pd, .slice kb K kd]; simpa using e)
  go_upto_region 1 with (fail)
  rw [← hw0]
  clear hw0
  obtain ⟨g, hg⟩ : ∃ g, g = w.heap.size := ⟨_, rfl⟩
  rw [← hg] at Hba Hbb ⊢
  clear hg
  obtain ⟨c0, c1⟩ := tree_cells Hba.out
  obtain ⟨d0, d1⟩ := tree_cells Hbb.out
  go_wp2_with (go_at_call 28; (with_reducible refine (same_calls t.pairs pa pb P pc pd _ Hh.out.hp (Hh.out.cp.ext hx0) (Hk.out.cp.ext hx0) hbp).mono ?_); rintro e w1 ⟨rfl, hx1⟩; clear c0 c1 d0 d1; obtain ⟨c0, c1⟩ := tree_cells (Hba.out.ext hx1); obtain ⟨d0, d1⟩ := tree_cells (Hbb.out.ext hx1))
  clear c0 c1 d0 d1
  go_loopw [24, 5] (fun i v wr => ∃ (k : Nat), k ≤ K ∧ i = .int .i64 k ∧ Ext w0 wr) (fun i _ _ => K - (intOf i).toNat)
  case atStart => exact ⟨0, Nat.zero_le _, rfl, hx1⟩
  case round =>
    obtain ⟨k, hk, rfl, hx⟩ := hrel
    by_cases hlt : k < K
    · have hkl : k < t.kids.length := by rw [Hh.out.hk]; exact hlt
      obtain ⟨x, rfl, _, _, r0⟩ := kd_row (Hh.out.ck.ext (hx0.trans hx)) hkl
      obtain ⟨y, rfl, _, _, s0⟩ := kd_row (Hk.out.ck.ext (hx0.trans hx)) hkl
      have hql : (t.kids[k]).2.length = 33 := (Hh.out.sk _ (List.getElem_mem hkl)).2
      generalize t.kids[k] = p at r0 s0 hql
      obtain ⟨cs, hcs⟩ : ∃ cs, cs = (kdC p).toArray := ⟨_, rfl⟩
      have z := fun u => kid_equal p hql u
      rw [← hcs] at z
      have HCS := Lib.hid hcs
      have HQL := Lib.hid hql
      have R0 := Lib.hid r0
      have S0 := Lib.hid s0
      clear hcs hql r0 s0
      go_upto_region 6 with (fail)
      refine wp_region_ops (FInv [27, 28, 29, 30, 31, 32, 33, 34, 35, 36, 37] _ wr.drew [⟨0, none, 27, .val (.pointer (some ⟨g, 1, none⟩))⟩, ⟨1, none, 28, .val (.slice (some x) K kc)⟩, ⟨2, none, 29, .val (.int .i64 (k : Int))⟩, ⟨3, none, 30, .val (.pointer (some (x.add (k * 34))))⟩, ⟨4, none, 31, .val (.agg cs)⟩, ⟨5, none, 32, .val (.pointer (some ⟨g + 1, 1, none⟩))⟩, ⟨6, none, 33, .val (.slice (some y) K kd)⟩, ⟨7, none, 34, .val (.int .i64 (k : Int))⟩, ⟨8, none, 35, .val (.pointer (some (y.add (k * 34))))⟩, ⟨9, none, 36, .val (.agg cs)⟩, ⟨10, none, 37, .val (.bool false)⟩]) (by kernel_rfl) (by kernel_rfl) FInv.start ?_ ?_
      · refine ⟨?o0, ?o1, ?o2, ?o3, ?o4, ?o5, ?o6, ?o7, ?o8, ?o9, ?o10, trivial⟩
        case o0 =>
          intro f a u h hfi hp hq
          exact h.yieldG rfl (wanted_none rfl) 27 rfl (by change 27 < 39; decide) rfl _ rfl (run_of_sem rfl (by rw [(show a.eval (.tmp 2) = .pointer (some ⟨g, 0, none⟩) from h.agree.eval (by decide))]; exact f_tree1 _ _))
        case o1 =>
          intro f a u h hfi hp hq
          have hyu : Ext wr u := ((Ext.refl wr).drew).trans h.ext
          exact h.yieldG rfl (wanted_none rfl) 28 rfl (by change 28 < 39; decide) rfl _ rfl (run_of_sem rfl (by rw [h.at_ 0 rfl (pre_of hp 0 rfl)]; exact ld_kids (tree_cells (Hba.out.ext (hx.trans hyu))).2))
        case o2 =>
          intro f a u h hfi hp hq
          have q5 : a.tmps[5]?.getD undef = .int .i64 (k : Int) := h.agree.att (by decide)
          exact h.yieldG rfl (wanted_none rfl) 29 rfl (by change 29 < 39; decide) rfl _ rfl (by go_simp)
        case o3 =>
          intro f a u h hfi hp hq
          exact h.yieldG rfl (wanted_none rfl) 30 rfl (by change 30 < 39; decide) rfl _ rfl (run_of_sem rfl (by rw [h.at_ 1 rfl (pre_of hp 1 rfl), h.at_ 2 rfl (pre_of hp 2 rfl)]; exact ix_kid rfl hlt))
        case o4 =>
          intro f a u h hfi hp hq
          have hyu : Ext wr u := ((Ext.refl wr).drew).trans h.ext
          exact h.yieldG rfl (wanted_none rfl) 31 rfl (by change 31 < 39; decide) rfl _ rfl (run_of_sem rfl (by rw [h.at_ 3 rfl (pre_of hp 3 rfl), HCS.out]; exact ld_kid HQL.out (fun j v hj => hyu.cell (R0.out j v hj))))
        case o5 =>
          intro f a u h hfi hp hq
          exact h.yieldG rfl (wanted_none rfl) 32 rfl (by change 32 < 39; decide) rfl _ rfl (run_of_sem rfl (by rw [(show a.eval (.tmp 3) = .pointer (some ⟨g + 1, 0, none⟩) from h.agree.eval (by decide))]; exact f_tree1 _ _))
        case o6 =>
          intro f a u h hfi hp hq
          have hyu : Ext wr u := ((Ext.refl wr).drew).trans h.ext
          exact h.yieldG rfl (wanted_none rfl) 33 rfl (by change 33 < 39; decide) rfl _ rfl (run_of_sem rfl (by rw [h.at_ 5 rfl (pre_of hp 5 rfl)]; exact ld_kids (tree_cells (Hbb.out.ext (hx.trans hyu))).2))
        case o7 =>
          intro f a u h hfi hp hq
          have q5 : a.tmps[5]?.getD undef = .int .i64 (k : Int) := h.agree.att (by decide)
          exact h.yieldG rfl (wanted_none rfl) 34 rfl (by change 34 < 39; decide) rfl _ rfl (by go_simp)
        case o8 =>
          intro f a u h hfi hp hq
          exact h.yieldG rfl (wanted_none rfl) 35 rfl (by change 35 < 39; decide) rfl _ rfl (run_of_sem rfl (by rw [h.at_ 6 rfl (pre_of hp 6 rfl), h.at_ 7 rfl (pre_of hp 7 rfl)]; exact ix_kid rfl hlt))
        case o9 =>
          intro f a u h hfi hp hq
          have hyu : Ext wr u := ((Ext.refl wr).drew).trans h.ext
          exact h.yieldG rfl (wanted_none rfl) 36 rfl (by change 36 < 39; decide) rfl _ rfl (run_of_sem rfl (by rw [h.at_ 8 rfl (pre_of hp 8 rfl), HCS.out]; exact ld_kid HQL.out (fun j v hj => hyu.cell (S0.out j v hj))))
        case o10 =>
          intro f a u h hfi hp hq
          have q31 := h.att 4 rfl (pre_of hp 4 rfl)
          have q36 := h.att 9 rfl (pre_of hp 9 rfl)
          have z := z u
          exact h.yieldG rfl (wanted_none rfl) 37 rfl (by change 37 < 39; decide) rfl _ rfl (by go_simp)
      · intro f a u h hall hfar
        have e37 := h.at_ 10 rfl (hall 10 (by decide))
        have hyu : Ext wr u := ((Ext.refl wr).drew).trans h.ext
        have hag := h.agree.out
        simp only [List.foldl_cons, List.foldl_nil, Act.put, List.setIfInBounds_toArray, List.set_cons_zero, List.set_cons_succ] at hag
        rw [e37] at hag
        clear e37
        generalize a.eval (.tmp 27) = y27 at hag
        generalize a.eval (.tmp 28) = y28 at hag
        generalize a.eval (.tmp 29) = y29 at hag
        generalize a.eval (.tmp 30) = y30 at hag
        generalize a.eval (.tmp 31) = y31 at hag
        generalize a.eval (.tmp 32) = y32 at hag
        generalize a.eval (.tmp 33) = y33 at hag
        generalize a.eval (.tmp 34) = y34 at hag
        generalize a.eval (.tmp 35) = y35 at hag
        generalize a.eval (.tmp 36) = y36 at hag
        clear h hall z
        subst hag
        go_wp2
        go_roundw
        case rel => exact ⟨k + 1, by omega, by go_num, hx.trans hyu⟩
        case measure => simp [intOf]; omega
    · obtain rfl : k = K := by omega
      go_wp2
      go_ret
      exact ⟨rfl, hx0.trans hx⟩

set_option maxRecDepth 100000 in
set_option maxHeartbeats 8000000 in
theorem sameCommit_calls (c : Cm) (qa qb : Option Addr) (Q qc qd : Nat) (w : World) (h : CmAt w c qa Q qc) (h' : CmAt w c qb Q qd) :
    Calls Try.prog 14 #[cma c qa Q qc, cma c qb Q qd] w fun e w' => e = .returned (.bool true) ∧ Ext w w' := by
  have Hh := Lib.hid h
  have Hk := Lib.hid h'
  have HR := Lib.hid h.hr
  have hbq := h.bq
  have hsn := h.sn
  clear h h'
  go_enter Try.func14, Try.ntmps14
  obtain ⟨w0, hw0⟩ : ∃ w0, w0 = (w.alloc (.cells (cmC c qa Q qc).toArray 31)).alloc (.cells (cmC c qb Q qd).toArray 31) := ⟨_, rfl⟩
  have hx0 : Ext w w0 := by rw [hw0]; exact ((Ext.refl _).alloc _).alloc _
  have Hba := Lib.hid (show Blk w0 w.heap.size 31 (cmC c qa Q qc).toArray from by rw [hw0]; exact (Blk.new w _ _).ext ((Ext.refl _).alloc _))
  have Hbb := Lib.hid (show Blk w0 (w.heap.size + 1) 31 (cmC c qb Q qd).toArray from by rw [hw0]; have e := Blk.new (w.alloc (.cells (cmC c qa Q qc).toArray 31)) 31 (cmC c qb Q qd).toArray; simpa using e)
  go_upto_region 1 with (fail)
  rw [← hw0]
  clear hw0
  obtain ⟨g, hg⟩ : ∃ g, g = w.heap.size := ⟨_, rfl⟩
  rw [← hg] at Hba Hbb ⊢
  clear hg
  obtain ⟨c0, c1, c2, c3⟩ := cm_cells Hba.out HR.out
  obtain ⟨d0, d1, d2, d3⟩ := cm_cells Hbb.out HR.out
  have z := fun w' => id_equal c.root c.root HR.out HR.out w'
  simp only [beq_self_eq_true] at z
  have r0 : ∀ (j : Nat) (v : Value), (bv c.root)[j]? = some v → w0.cell? ((⟨g, 0, none⟩ : Addr).add j) = some v := fun j v hv => by obtain ⟨b, hb, hc⟩ := c0 j v hv; cases hb; exact hc
  have s0 : ∀ (j : Nat) (v : Value), (bv c.root)[j]? = some v → w0.cell? ((⟨g + 1, 0, none⟩ : Addr).add j) = some v := fun j v hv => by obtain ⟨b, hb, hc⟩ := d0 j v hv; cases hb; exact hc
  have R0 := Lib.hid r0
  have S0 := Lib.hid s0
  clear c0 d0 r0 s0
  go_wp2_with (first
    | (refine wpList_load_row_ rfl 28 (.tmp 6) rfl ⟨g, 0, none⟩ rfl (bv c.root) _ R0.out Try.underlying28 rfl (by rw [id_info, bv_len, HR.out]) ?_)
    | (refine wpList_load_row_ rfl 28 (.tmp 8) rfl ⟨g + 1, 0, none⟩ rfl (bv c.root) _ S0.out Try.underlying28 rfl (by rw [id_info, bv_len, HR.out]) ?_))
  clear c1 c2 c3 d1 d2 d3 z
  go_loopw [37, 5] (fun i v wr => ∃ (k : Nat), k ≤ Q ∧ i = .int .i64 k ∧ Ext w0 wr) (fun i _ _ => Q - (intOf i).toNat)
  case atStart => exact ⟨0, Nat.zero_le _, rfl, Ext.refl _⟩
  case round =>
    obtain ⟨k, hk, rfl, hx⟩ := hrel
    by_cases hlt : k < Q
    · have hkl : k < c.parents.length := by rw [Hh.out.hq]; exact hlt
      obtain ⟨x, rfl, r0, _⟩ := id_row (Hh.out.cq.ext (hx0.trans hx)) hkl
      obtain ⟨y, rfl, s0, _⟩ := id_row (Hk.out.cq.ext (hx0.trans hx)) hkl
      have hql : (c.parents[k]).length = 33 := Hh.out.sq _ (List.getElem_mem hkl)
      generalize c.parents[k] = p at r0 s0 hql
      obtain ⟨cs, hcs⟩ : ∃ cs, cs = (bv p).toArray := ⟨_, rfl⟩
      have z := fun u => id_equal p p hql hql u
      simp only [← hcs, beq_self_eq_true] at z
      have HCS := Lib.hid hcs
      have HQL := Lib.hid hql
      have R1 := Lib.hid r0
      have S1 := Lib.hid s0
      clear hcs hql r0 s0
      go_upto_region 6 with (fail)
      refine wp_region_ops (FInv [40, 41, 42, 43, 44, 45, 46, 47, 48, 49, 50] _ wr.drew [⟨0, none, 40, .val (.pointer (some ⟨g, 33, none⟩))⟩, ⟨1, none, 41, .val (.slice (some x) Q qc)⟩, ⟨2, none, 42, .val (.int .i64 (k : Int))⟩, ⟨3, none, 43, .val (.pointer (some (x.add (k * 33))))⟩, ⟨4, none, 44, .val (.agg cs)⟩, ⟨5, none, 45, .val (.pointer (some ⟨g + 1, 33, none⟩))⟩, ⟨6, none, 46, .val (.slice (some y) Q qd)⟩, ⟨7, none, 47, .val (.int .i64 (k : Int))⟩, ⟨8, none, 48, .val (.pointer (some (y.add (k * 33))))⟩, ⟨9, none, 49, .val (.agg cs)⟩, ⟨10, none, 50, .val (.bool false)⟩]) (by kernel_rfl) (by kernel_rfl) FInv.start ?_ ?_
      · refine ⟨?o0, ?o1, ?o2, ?o3, ?o4, ?o5, ?o6, ?o7, ?o8, ?o9, ?o10, trivial⟩
        case o0 =>
          intro f a u h hfi hp hq
          exact h.yieldG rfl (wanted_none rfl) 40 rfl (by change 40 < 52; decide) rfl _ rfl (run_of_sem rfl (by rw [(show a.eval (.tmp 2) = .pointer (some ⟨g, 0, none⟩) from h.agree.eval (by decide))]; exact f_cm1 _ _))
        case o1 =>
          intro f a u h hfi hp hq
          have hyu : Ext wr u := ((Ext.refl wr).drew).trans h.ext
          exact h.yieldG rfl (wanted_none rfl) 41 rfl (by change 41 < 52; decide) rfl _ rfl (run_of_sem rfl (by rw [h.at_ 0 rfl (pre_of hp 0 rfl)]; exact ld_ids (cm_cells (Hba.out.ext (hx.trans hyu)) HR.out).2.1))
        case o2 =>
          intro f a u h hfi hp hq
          have q5 : a.tmps[5]?.getD undef = .int .i64 (k : Int) := h.agree.att (by decide)
          exact h.yieldG rfl (wanted_none rfl) 42 rfl (by change 42 < 52; decide) rfl _ rfl (by go_simp)
        case o3 =>
          intro f a u h hfi hp hq
          exact h.yieldG rfl (wanted_none rfl) 43 rfl (by change 43 < 52; decide) rfl _ rfl (run_of_sem rfl (by rw [h.at_ 1 rfl (pre_of hp 1 rfl), h.at_ 2 rfl (pre_of hp 2 rfl)]; exact ix_id rfl hlt))
        case o4 =>
          intro f a u h hfi hp hq
          have hyu : Ext wr u := ((Ext.refl wr).drew).trans h.ext
          exact h.yieldG rfl (wanted_none rfl) 44 rfl (by change 44 < 52; decide) rfl _ rfl (run_of_sem rfl (by rw [h.at_ 3 rfl (pre_of hp 3 rfl), HCS.out]; exact ld_id HQL.out (R1.out.ext hyu)))
        case o5 =>
          intro f a u h hfi hp hq
          exact h.yieldG rfl (wanted_none rfl) 45 rfl (by change 45 < 52; decide) rfl _ rfl (run_of_sem rfl (by rw [(show a.eval (.tmp 3) = .pointer (some ⟨g + 1, 0, none⟩) from h.agree.eval (by decide))]; exact f_cm1 _ _))
        case o6 =>
          intro f a u h hfi hp hq
          have hyu : Ext wr u := ((Ext.refl wr).drew).trans h.ext
          exact h.yieldG rfl (wanted_none rfl) 46 rfl (by change 46 < 52; decide) rfl _ rfl (run_of_sem rfl (by rw [h.at_ 5 rfl (pre_of hp 5 rfl)]; exact ld_ids (cm_cells (Hbb.out.ext (hx.trans hyu)) HR.out).2.1))
        case o7 =>
          intro f a u h hfi hp hq
          have q5 : a.tmps[5]?.getD undef = .int .i64 (k : Int) := h.agree.att (by decide)
          exact h.yieldG rfl (wanted_none rfl) 47 rfl (by change 47 < 52; decide) rfl _ rfl (by go_simp)
        case o8 =>
          intro f a u h hfi hp hq
          exact h.yieldG rfl (wanted_none rfl) 48 rfl (by change 48 < 52; decide) rfl _ rfl (run_of_sem rfl (by rw [h.at_ 6 rfl (pre_of hp 6 rfl), h.at_ 7 rfl (pre_of hp 7 rfl)]; exact ix_id rfl hlt))
        case o9 =>
          intro f a u h hfi hp hq
          have hyu : Ext wr u := ((Ext.refl wr).drew).trans h.ext
          exact h.yieldG rfl (wanted_none rfl) 49 rfl (by change 49 < 52; decide) rfl _ rfl (run_of_sem rfl (by rw [h.at_ 8 rfl (pre_of hp 8 rfl), HCS.out]; exact ld_id HQL.out (S1.out.ext hyu)))
        case o10 =>
          intro f a u h hfi hp hq
          have q44 := h.att 4 rfl (pre_of hp 4 rfl)
          have q49 := h.att 9 rfl (pre_of hp 9 rfl)
          have z := z u
          exact h.yieldG rfl (wanted_none rfl) 50 rfl (by change 50 < 52; decide) rfl _ rfl (by go_simp)
      · intro f a u h hall hfar
        have e50 := h.at_ 10 rfl (hall 10 (by decide))
        have hyu : Ext wr u := ((Ext.refl wr).drew).trans h.ext
        have hag := h.agree.out
        simp only [List.foldl_cons, List.foldl_nil, Act.put, List.setIfInBounds_toArray, List.set_cons_zero, List.set_cons_succ] at hag
        rw [e50] at hag
        clear e50
        generalize a.eval (.tmp 40) = y40 at hag
        generalize a.eval (.tmp 41) = y41 at hag
        generalize a.eval (.tmp 42) = y42 at hag
        generalize a.eval (.tmp 43) = y43 at hag
        generalize a.eval (.tmp 44) = y44 at hag
        generalize a.eval (.tmp 45) = y45 at hag
        generalize a.eval (.tmp 46) = y46 at hag
        generalize a.eval (.tmp 47) = y47 at hag
        generalize a.eval (.tmp 48) = y48 at hag
        generalize a.eval (.tmp 49) = y49 at hag
        clear h hall z
        subst hag
        go_wp2
        go_roundw
        case rel => exact ⟨k + 1, by omega, by go_num, hx.trans hyu⟩
        case measure => simp [intOf]; omega
    · obtain rfl : k = Q := by omega
      go_wp2
      go_ret
      exact ⟨rfl, hx0.trans hx⟩
end Go.Proofs.Ythepbcomeimcnaa
