/- Pairs compared. -/
import Derived.Test.YthepbcomeimcnaaObjRefC
namespace Go.Proofs.Ythepbcomeimcnaa
open Go.RowKit
set_option linter.unusedVariables false

theorem pair_held : Try.prog.stoodInHeld 43 = false := by kernel_rfl
theorem pair_under : Try.prog.underlying 43 = some (.struct (Try.prog.fieldsOf 43)) := by
  unfold Program.fieldsOf
  rw [Try.underlying43]
theorem pair_fields : (Try.prog.fieldsOf 43).toList.map (fun f => (f.name == "_", f.type, f.offset)) = [(false, 9, 0), (false, 9, 1)] := by kernel_rfl
theorem pair_equal_d (d : Nat) (p q : Pr) (w : World) : (Op.equalIn (d + 2) 43 (.agg (prC p).toArray) (.agg (prC q).toArray)).run Try.prog w = .ok (p.1.toList == q.1.toList && p.2.toList == q.2.toList) w := by
  rw [run_equalIn_struct w (d + 1) 43 _ _ pair_under pair_held]
  have hf := pair_fields
  generalize (Try.prog.fieldsOf 43).toList = l at hf ⊢
  have h := congrArg List.length hf
  rw [List.length_map] at h
  rcases l with _ | ⟨f0, _ | ⟨f1, _ | ⟨f2, l⟩⟩⟩
  · cases h
  · cases h
  · simp only [List.map_cons, List.map_nil, List.cons.injEq, Prod.mk.injEq, and_true, beq_eq_false_iff_ne, ne_eq] at hf
    obtain ⟨⟨n0, t0, o0⟩, ⟨n1, t1, o1⟩⟩ := hf
    have p0 : ∀ r : Pr, (part 9 (prC r).toArray 0).run Try.prog w = .ok (.string r.1) w := by
      intro r
      simp [part, isAgg, run_underlying Try.underlying9, prC]
    have p1 : ∀ r : Pr, (part 9 (prC r).toArray 1).run Try.prog w = .ok (.string r.2) w := by
      intro r
      simp [part, isAgg, run_underlying Try.underlying9, prC]
    have h0 := run_equalIn_string (P := Try.prog) w d 9 p.1 q.1 Try.underlying9
    have h1 := run_equalIn_string (P := Try.prog) w d 9 p.2 q.2 Try.underlying9
    simp only [Op.eqFields, ne_eq, n0, n1, not_false_eq_true, if_true, t0, t1, o0, o1, Sem.run_bind, p0, p1, h0, Result.andThen_ok]
    generalize (p.1.toList == q.1.toList) = z
    cases z
    · rw [if_pos (by decide), Sem.run_pure, Bool.false_and]
    · rw [if_neg (by decide), Sem.run_bind, p1, Result.andThen_ok, Sem.run_bind, p1, Result.andThen_ok, Sem.run_bind, h1, Result.andThen_ok, Bool.true_and]
      generalize (p.2.toList == q.2.toList) = z
      cases z
      · rw [if_pos (by decide), Sem.run_pure]
      · rw [if_neg (by decide), Sem.run_pure]
  · simp at h
theorem pair_equal (p q : Pr) (w : World) : (Op.equalIn 10000 43 (.agg (prC p).toArray) (.agg (prC q).toArray)).run Try.prog w = .ok (p.1.toList == q.1.toList && p.2.toList == q.2.toList) w := pair_equal_d 9998 p q w
theorem ix_pair {w : World} {a : Addr} {n c i : Nat} {z : Int} (hz : z = (i : Int)) (h : i < n) : (Instr.indexAt 22 (.slice (some a) n c) (.int .i64 z)).run Try.prog w = .ok (.pointer (some (a.add (i * 2)))) w := by
  subst hz
  have h1 : (0 : Int) ≤ (i : Int) := by omega
  have h2 : (i : Int) < (n : Int) := by omega
  go_simp
theorem ld_pair {w : World} {p : Addr} {r : Pr} (h0 : w.cell? p = some (.string r.1)) (h1 : w.cell? (p.add 1) = some (.string r.2)) : (Instr.loadAt 43 (.pointer (some p))).run Try.prog w = .ok (.agg (prC r).toArray) w :=
  run_loadAt_row w p 43 (prC r) _ (fun j v hj => by
    match j, hj with
    | 0, hj => cases hj; exact h0
    | 1, hj => cases hj; exact h1
    | n + 2, hj => cases hj) Try.underlying43 rfl pr_info
set_option maxRecDepth 100000 in
set_option maxHeartbeats 4000000 in
theorem same_calls (ps : List Pr) (pa pb : Option Addr) (P pc pd : Nat) (w : World) (hp : ps.length = P) (h1 : Row w pa 2 (ps.map prC)) (h2 : Row w pb 2 (ps.map prC)) (hb : P ≤ 140737488351232) :
    Calls Try.prog 28 #[.slice pa P pc, .slice pb P pd] w fun e w' => e = .returned (.bool true) ∧ Ext w w' := by
  have H1 := Lib.hid h1
  have H2 := Lib.hid h2
  have HP := Lib.hid hp
  clear h1 h2 hp
  go_enter Try.func28, Try.ntmps28
  go_wp2
  go_loopw [13, 4] (fun i v wr => ∃ (k : Nat), k ≤ P ∧ i = .int .i64 k ∧ Ext w wr) (fun i _ _ => P - (intOf i).toNat)
  case atStart => exact ⟨0, Nat.zero_le _, rfl, Ext.refl _⟩
  case round =>
    obtain ⟨k, hk, rfl, hx⟩ := hrel
    by_cases hlt : k < P
    · have hkl : k < ps.length := by rw [HP.out]; exact hlt
      obtain ⟨x, rfl, r0, r1⟩ := pr_row (H1.out.ext hx) hkl
      obtain ⟨y, rfl, s0, s1⟩ := pr_row (H2.out.ext hx) hkl
      generalize ps[k] = p at r0 r1 s0 s1
      obtain ⟨cs, hcs⟩ : ∃ cs, cs = (prC p).toArray := ⟨_, rfl⟩
      have z := fun u => pair_equal p p u
      simp only [beq_self_eq_true, Bool.and_self, ← hcs] at z
      have HCS := Lib.hid hcs
      clear hcs
      go_upto_region 6 with (fail)
      refine wp_region_ops (FInv [16, 17, 18, 19, 20, 21, 22, 23, 24] _ wr.drew [⟨0, none, 16, .val (.slice (some x) P pc)⟩, ⟨1, none, 17, .val (.int .i64 (k : Int))⟩, ⟨2, none, 18, .val (.pointer (some (x.add (k * 2))))⟩, ⟨3, none, 19, .val (.agg cs)⟩, ⟨4, none, 20, .val (.slice (some y) P pd)⟩, ⟨5, none, 21, .val (.int .i64 (k : Int))⟩, ⟨6, none, 22, .val (.pointer (some (y.add (k * 2))))⟩, ⟨7, none, 23, .val (.agg cs)⟩, ⟨8, none, 24, .val (.bool false)⟩]) (by kernel_rfl) (by kernel_rfl) FInv.start ?_ ?_
      · refine ⟨?o0, ?o1, ?o2, ?o3, ?o4, ?o5, ?o6, ?o7, ?o8, trivial⟩
        case o0 =>
          intro f a u h hfi hp hq
          have q0 : a.tmps[0]?.getD undef = .slice (some x) P pc := h.agree.att (by decide)
          exact h.yieldG rfl (wanted_none rfl) 16 rfl (by change 16 < 26; decide) rfl _ rfl (by go_simp)
        case o1 =>
          intro f a u h hfi hp hq
          have q5 : a.tmps[5]?.getD undef = .int .i64 (k : Int) := h.agree.att (by decide)
          exact h.yieldG rfl (wanted_none rfl) 17 rfl (by change 17 < 26; decide) rfl _ rfl (by go_simp)
        case o2 =>
          intro f a u h hfi hp hq
          exact h.yieldG rfl (wanted_none rfl) 18 rfl (by change 18 < 26; decide) rfl _ rfl (run_of_sem rfl (by rw [h.at_ 0 rfl (pre_of hp 0 rfl), h.at_ 1 rfl (pre_of hp 1 rfl)]; exact ix_pair rfl hlt))
        case o3 =>
          intro f a u h hfi hp hq
          have hyu : Ext wr u := ((Ext.refl wr).drew).trans h.ext
          exact h.yieldG rfl (wanted_none rfl) 19 rfl (by change 19 < 26; decide) rfl _ rfl (run_of_sem rfl (by rw [h.at_ 2 rfl (pre_of hp 2 rfl), HCS.out]; exact ld_pair (hyu.cell r0) (hyu.cell r1)))
        case o4 =>
          intro f a u h hfi hp hq
          have q1 : a.tmps[1]?.getD undef = .slice (some y) P pd := h.agree.att (by decide)
          exact h.yieldG rfl (wanted_none rfl) 20 rfl (by change 20 < 26; decide) rfl _ rfl (by go_simp)
        case o5 =>
          intro f a u h hfi hp hq
          have q5 : a.tmps[5]?.getD undef = .int .i64 (k : Int) := h.agree.att (by decide)
          exact h.yieldG rfl (wanted_none rfl) 21 rfl (by change 21 < 26; decide) rfl _ rfl (by go_simp)
        case o6 =>
          intro f a u h hfi hp hq
          exact h.yieldG rfl (wanted_none rfl) 22 rfl (by change 22 < 26; decide) rfl _ rfl (run_of_sem rfl (by rw [h.at_ 4 rfl (pre_of hp 4 rfl), h.at_ 5 rfl (pre_of hp 5 rfl)]; exact ix_pair rfl hlt))
        case o7 =>
          intro f a u h hfi hp hq
          have hyu : Ext wr u := ((Ext.refl wr).drew).trans h.ext
          exact h.yieldG rfl (wanted_none rfl) 23 rfl (by change 23 < 26; decide) rfl _ rfl (run_of_sem rfl (by rw [h.at_ 6 rfl (pre_of hp 6 rfl), HCS.out]; exact ld_pair (hyu.cell s0) (hyu.cell s1)))
        case o8 =>
          intro f a u h hfi hp hq
          have q19 := h.att 3 rfl (pre_of hp 3 rfl)
          have q23 := h.att 7 rfl (pre_of hp 7 rfl)
          have z := z u
          exact h.yieldG rfl (wanted_none rfl) 24 rfl (by change 24 < 26; decide) rfl _ rfl (by go_simp)
      · intro f a u h hall hfar
        have e24 := h.at_ 8 rfl (hall 8 (by decide))
        have hyu : Ext wr u := ((Ext.refl wr).drew).trans h.ext
        have hag := h.agree.out
        simp only [List.foldl_cons, List.foldl_nil, Act.put, List.setIfInBounds_toArray, List.set_cons_zero, List.set_cons_succ] at hag
        rw [e24] at hag
        clear e24
        generalize a.eval (.tmp 16) = y16 at hag
        generalize a.eval (.tmp 17) = y17 at hag
        generalize a.eval (.tmp 18) = y18 at hag
        generalize a.eval (.tmp 19) = y19 at hag
        generalize a.eval (.tmp 20) = y20 at hag
        generalize a.eval (.tmp 21) = y21 at hag
        generalize a.eval (.tmp 22) = y22 at hag
        generalize a.eval (.tmp 23) = y23 at hag
        clear h hall r0 r1 s0 s1
        subst hag
        go_wp2
        go_roundw
        case rel => exact ⟨k + 1, by omega, by go_num, hx.trans hyu⟩
        case measure => simp [intOf]; omega
    · obtain rfl : k = P := by omega
      go_wp2
      go_ret
      exact ⟨rfl, hx⟩
end Go.Proofs.Ythepbcomeimcnaa
