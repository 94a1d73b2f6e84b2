/- The reference's Of, Same, Great; table.All. Printed by wip/mktabref2.py. -/
import Derived.Test.YtnggdkpaofbaaaaTabRef
namespace Go.Proofs.Ytnggdkpaofbaaaa
open Go.RowKit
set_option linter.unusedVariables false

theorem ins_len (w : W3) : ∀ (d : Bool) (l : List W3), (ins w d l).length ≤ l.length + 1
  | true, [] => by simp [ins]
  | false, [] => by simp [ins]
  | d, x :: l => by
    have h := ins_len w (d || !klt x.1 w.1) l
    have hd := ins_done w l
    rw [ins_step]
    cases d with
    | true =>
      rw [Bool.not_true, Bool.false_and, if_neg (by decide), List.nil_append, List.length_append, Bool.true_or, hd]
      have := List.length_filter_le (fun x : W3 => decide (x.1 ≠ w.1)) l
      split <;> simp only [List.length_nil, List.length_cons] <;> omega
    | false =>
      cases hk : klt x.1 w.1 with
      | true =>
        rw [hk] at h
        simp only [Bool.not_true, Bool.and_false, Bool.false_or, Bool.not_false] at h ⊢
        rw [if_neg (by decide), List.nil_append, List.length_append]
        split <;> simp only [List.length_nil, List.length_cons] <;> omega
      | false =>
        simp only [Bool.not_false, Bool.and_self, if_true, Bool.or_true]
        rw [hd, List.length_append, List.length_append]
        have := List.length_filter_le (fun x : W3 => decide (x.1 ≠ w.1)) l
        split <;> simp only [List.length_nil, List.length_cons] <;> omega
theorem tabOf_len (l : List W3) : (tabOf l).length ≤ l.length := by
  refine rev_ind (P := fun l => (tabOf l).length ≤ l.length) (by simp [tabOf]) (fun l w ih => ?_) l
  rw [tabOf_snoc, List.length_append]
  have := ins_len (fixW w) false (tabOf l)
  simp only [List.length_cons, List.length_nil]
  omega
set_option maxRecDepth 50000 in
set_option maxHeartbeats 8000000 in
theorem rof_calls (ls : List W3) (A : Option Addr) (n c : Nat) (w : World) (hr : Row w A 3 (ls.map wC)) (hn : ls.length = n) (hl : n ≤ 100000) :
    Calls Try.prog 22 #[.slice A n c] w fun e w' => ∃ v, e = .returned v ∧ OwnW w.heap.size w' v (tabOf ls) ∧ Ext w w' := by
  have Hr := Lib.hid hr
  have Hn := Lib.hid hn
  clear hr hn
  go_enter Try.func22, Try.ntmps22
  go_upto_region 3 with (fail)
  go_loopw [8, 3] (fun i u wr => ∃ (k : Nat), k ≤ n ∧ i = .int .i64 k ∧ Hid (OwnW w.heap.size wr u (tabOf (ls.take k))) ∧ Ext w wr) (fun i _ _ => n - (intOf i).toNat)
  case atStart => exact ⟨0, Nat.zero_le _, rfl, Lib.hid (OwnW.nil _ _), Ext.refl _⟩
  case round =>
    obtain ⟨k, hk, rfl, HO, hx⟩ := hrel
    obtain ⟨A5, c5, rfl, _, _, hc5⟩ := HO.out.form
    have HC5 := Lib.hid hc5
    clear hc5
    obtain ⟨L, hL⟩ : ∃ L, L = tabOf (ls.take k) := ⟨_, rfl⟩
    have hLl : L.length ≤ k := by
      have := tabOf_len (ls.take k)
      rw [List.length_take] at this
      rw [hL]
      omega
    rw [← hL] at HO HC5 ⊢
    by_cases hlt : k < n
    · have hkl : k < ls.length := by rw [Hn.out]; exact hlt
      obtain ⟨ad, rfl, hlc0⟩ := Hr.out.get (i := k) (by simpa using hkl)
      rw [List.getElem_map] at hlc0
      have htk : tabOf (ls.take (k + 1)) = ins (fixW ls[k]) false L := by rw [List.take_succ_eq_append_getElem hkl, tabOf_snoc, hL]
      obtain ⟨x, hxe⟩ : ∃ x, x = ls[k] := ⟨_, rfl⟩
      rw [← hxe] at hlc0 htk
      have hlc : ∀ (j : Nat) (v : Value), (wC x)[j]? = some v → wr.cell? ((ad.add (k * 3)).add j) = some v := fun j v hj => hx.cell (hlc0 j v hj)
      have HTK := Lib.hid htk
      clear hxe hlc0 htk hkl hL
      have hp0 : (0 : Int) ≤ (k : Int) := by omega
      have hp1 : (k : Int) < (n : Int) := by omega
      go_upto_region 5 with (first
        | (refine wpList_load_row_ rfl 46 (.tmp 10) rfl (ad.add (k * 3)) rfl (wC x) _ hlc Try.underlying46 rfl (by rw [w_info]; rfl) ?_)
        | (refine wpList_store_blk rfl 46 (.tmp 5) (.tmp 11) rfl rfl wr.heap.size (wC x).toArray rfl rfl _ _ (Blk.new wr _ _) rfl (by kernel_rfl) (wC_one x) ?_; intro w3 hb3 hg3; have hx3 : Ext wr w3 := ((Ext.refl _).alloc _).grown_ hg3 (by simp)))
      obtain ⟨g5, hg5⟩ : ∃ g5, g5 = wr.heap.size := ⟨_, rfl⟩
      rw [← hg5] at hb3 ⊢
      have HB3 := Lib.hid hb3
      have hput := rput_calls L A5 L.length c5 x w3 (row_of_cells (HC5.out.ext hx3)) rfl (by omega)
      have HPUT := Lib.hid (show Calls Try.prog 48 #[.slice A5 L.length c5, .agg (wC x).toArray] w3 _ from hput)
      clear hlc hg3 hb3 hg5 hput
      go_wp2_with (first
        | (refine wpList_load_row_ rfl 46 (.tmp 5) rfl ⟨g5, 0, none⟩ rfl (wC x) _ (blk_cells HB3.out) Try.underlying46 rfl (by rw [w_info]; rfl) ?_)
        | (go_at_call 48; (with_reducible refine HPUT.out.mono ?_); rintro e w4 ⟨v4, rfl, ho4, hx4⟩; rw [← HTK.out] at ho4; have HO4 := Lib.hid (ho4.lower (Nat.le_trans hx.size hx3.size)); have HX4 := Lib.hid ((hx.trans hx3).trans hx4); clear ho4 hx4))
      go_roundw
      case rel => exact ⟨k + 1, by omega, by go_num, HO4, HX4.out⟩
      case measure => simp [intOf]; omega
    · obtain rfl : n = k := by omega
      have hL2 : L = tabOf ls := by rw [hL, ← Hn.out, List.take_length]
      have HL2 := Lib.hid hL2
      clear hL hL2
      go_wp2
      go_ret
      refine ⟨_, rfl, ?_, hx⟩
      rw [← HL2.out]
      exact HO.out

set_option maxRecDepth 50000 in
set_option maxHeartbeats 4000000 in
theorem rgreat_calls (ls : List W3) (A : Option Addr) (n c : Nat) (most : Int) (w : World) (hr : Row w A 3 (ls.map wC)) (hn : ls.length = n) (hl : n ≤ 140737488351232) (hm : 0 ≤ most ∧ most ≤ 1000000) (hi : ∀ p ∈ ls, p.1.size ≤ 140737488351232 ∧ p.2.1.size ≤ 140737488351232) :
    Calls Try.prog 8 #[.slice A n c, .int .i64 most] w fun e w' => (∃ b, e = .returned (.bool b) ∧ (b = false → (n : Int) ≤ most)) ∧ Ext w w' := by
  have Hr := Lib.hid hr
  have Hi := Lib.hid hi
  have Hn := Lib.hid hn
  clear hr hi hn
  go_enter Try.func8, Try.ntmps8
  go_upto_region 3 with (fail)
  go_loopw [10, 5] (fun i v wr => ∃ (k m : Nat), k ≤ n ∧ i = .int .i64 k ∧ v = .int .i64 m ∧ k ≤ m ∧ (m : Int) ≤ most ∧ Ext w wr) (fun i _ _ => n - (intOf i).toNat)
  case atStart => exact ⟨0, 0, Nat.zero_le _, rfl, rfl, Nat.le_refl _, by omega, Ext.refl _⟩
  case round =>
    obtain ⟨k, m, hk, rfl, rfl, hkm, hm2, hx⟩ := hrel
    by_cases hlt : k < n
    · have hkl : k < ls.length := by rw [Hn.out]; exact hlt
      obtain ⟨ad, rfl, hlc0⟩ := Hr.out.get (i := k) (by simpa using hkl)
      rw [List.getElem_map] at hlc0
      obtain ⟨hs1, hs2⟩ := Hi.out _ (List.getElem_mem hkl)
      obtain ⟨x, hxe⟩ : ∃ x, x = ls[k] := ⟨_, rfl⟩
      rw [← hxe] at hlc0 hs1 hs2
      have hlc : ∀ (j : Nat) (v : Value), (wC x)[j]? = some v → wr.cell? ((ad.add (k * 3)).add j) = some v := fun j v hj => hx.cell (hlc0 j v hj)
      clear hxe hlc0 hkl
      have hp0 : (0 : Int) ≤ (k : Int) := by omega
      have hp1 : (k : Int) < (n : Int) := by omega
      go_upto_region 5 with (first
        | (refine wpList_load_row_ rfl 46 (.tmp 12) rfl (ad.add (k * 3)) rfl (wC x) _ hlc Try.underlying46 rfl (by rw [w_info]; rfl) ?_)
        | (refine wpList_store_blk rfl 46 (.tmp 7) (.tmp 13) rfl rfl wr.heap.size (wC x).toArray rfl rfl _ _ (Blk.new wr _ _) rfl (by kernel_rfl) (wC_one x) ?_; intro w3 hb3 hg3; have hx3 : Ext wr w3 := ((Ext.refl _).alloc _).grown_ hg3 (by simp)))
      obtain ⟨x0, x1, x2⟩ := x
      have hs1' : x0.size ≤ 140737488351232 := hs1
      have hs2' : x1.size ≤ 140737488351232 := hs2
      clear hlc hg3 hs1 hs2
      have p0 : w3.cell? ⟨wr.heap.size, 0, none⟩ = some (.string x0) := by rw [hb3.cell]; rfl
      have p1 : w3.cell? ⟨wr.heap.size, 1, none⟩ = some (.string x1) := by rw [hb3.cell]; rfl
      clear hb3
      by_cases hbig : most < (m : Int) + 1 + (x0.size : Int) + (x1.size : Int)
      · go_wp2
        go_ret
        exact ⟨⟨_, rfl, fun h => by cases h⟩, hx.trans hx3⟩
      · go_wp2
        go_roundw
        case rel => exact ⟨k + 1, m + 1 + x0.size + x1.size, by omega, by go_num, by go_num, by omega, by omega, hx.trans hx3⟩
        case measure => simp [intOf]; omega
    · obtain rfl : n = k := by omega
      go_wp2
      go_ret
      exact ⟨⟨_, rfl, fun _ => by omega⟩, hx⟩
set_option maxRecDepth 50000 in
/-- table.All: a copy of the writes. -/
theorem all_calls (B p : Nat) (l : List W3) (w : World) (h : TabAt B w p l) (hl : l.length ≤ 1000000) :
    Calls Try.prog 20 #[.pointer (some ⟨p, 0, none⟩)] w fun e w' => ∃ v, e = .returned v ∧ OwnW w.heap.size w' v l ∧ Ext w w' := by
  obtain ⟨A, c, hb, ho⟩ := h
  have hc0 : w.cell? ⟨p, 0, none⟩ = some (.slice A l.length c) := by rw [hb.cell]; rfl
  obtain ⟨i0, hi0, hz, hsize, hby⟩ := info_parts wfull_info
  have hcl : Calls Try.prog 45 #[.slice A l.length c] w fun e w' => ∃ v, e = .returned v ∧ OwnW w.heap.size w' v l ∧ Ext w w' := by
    rcases ho.2 with ⟨e, _⟩ | ⟨g, cap, cur, e, _⟩
    · simp only [Value.slice.injEq] at e
      obtain ⟨rfl, e2, rfl⟩ := e
      have hl0 : l = [] := List.eq_nil_of_length_eq_zero e2
      subst hl0
      refine Calls.mono (AnyE.slices_Clone_nil (P := Try.prog) Try.cloneW 0 0 w) (fun e w' ⟨h1, h2⟩ => ?_)
      subst h2
      exact ⟨_, h1, OwnW.nil _ _, Ext.refl _⟩
    · simp only [Value.slice.injEq] at e
      obtain ⟨rfl, _, rfl⟩ := e
      obtain ⟨_, _, e3, _, _, hcell⟩ := own_form ho (by decide)
      cases e3
      refine Calls.mono (AnyE.slices_Clone (P := Try.prog) Try.cloneW i0 (.agg #[.string ByteArray.empty, .string ByteArray.empty, .bool false]) 3 40 hi0 hz hsize hby rfl (by decide) Try.sizeOf46 g 0 l.length c (l.map wC).flatten w (wflat_len l) (by simp only [maxLen]; omega) (by omega) (fun j u hj => by
        obtain ⟨a, ha, hc⟩ := hcell j u hj
        cases ha
        rw [Nat.zero_add]
        rw [add_new] at hc
        exact hc) (wflat_one l)) (fun e w' ⟨v', h1, h2, _, h4⟩ => ⟨v', h1, h2, h4⟩)
  have HCL := Lib.hid hcl
  clear hcl hb ho hi0 hz hsize hby
  go_enter Try.func20, Try.ntmps20
  go_wp2_with (go_at_call 45; (with_reducible refine HCL.out.mono ?_); rintro e w1 ⟨v, rfl, h1, h2⟩)
  go_ret
  exact ⟨_, rfl, h1, h2⟩

theorem write_held : Try.prog.stoodInHeld 46 = false := by kernel_rfl
theorem write_under : Try.prog.underlying 46 = some (.struct (Try.prog.fieldsOf 46)) := by
  unfold Program.fieldsOf
  rw [Try.underlying46]
theorem write_fields : (Try.prog.fieldsOf 46).toList.map (fun f => (f.name == "_", f.type, f.offset)) = [(false, 9, 0), (false, 9, 1), (false, 4, 2)] := by kernel_rfl
theorem write_equal_d (d : Nat) (p q : W3) (w : World) : (Op.equalIn (d + 2) 46 (.agg (wC p).toArray) (.agg (wC q).toArray)).run Try.prog w = .ok (p.1.toList == q.1.toList && (p.2.1.toList == q.2.1.toList && p.2.2 == q.2.2)) w := by
  rw [run_equalIn_struct w (d + 1) 46 _ _ write_under write_held]
  have hf := write_fields
  generalize (Try.prog.fieldsOf 46).toList = l at hf ⊢
  have h := congrArg List.length hf
  rw [List.length_map] at h
  rcases l with _ | ⟨f0, _ | ⟨f1, _ | ⟨f2, _ | ⟨f3, l⟩⟩⟩⟩
  · cases h
  · cases h
  · cases h
  · simp only [List.map_cons, List.map_nil, List.cons.injEq, Prod.mk.injEq, and_true, beq_eq_false_iff_ne, ne_eq] at hf
    obtain ⟨⟨n0, t0, o0⟩, ⟨n1, t1, o1⟩, ⟨n2, t2, o2⟩⟩ := hf
    have p0 : ∀ r : W3, (part 9 (wC r).toArray 0).run Try.prog w = .ok (.string r.1) w := by
      intro r
      simp [part, isAgg, run_underlying Try.underlying9, wC]
    have p1 : ∀ r : W3, (part 9 (wC r).toArray 1).run Try.prog w = .ok (.string r.2.1) w := by
      intro r
      simp [part, isAgg, run_underlying Try.underlying9, wC]
    have p2 : ∀ r : W3, (part 4 (wC r).toArray 2).run Try.prog w = .ok (.bool r.2.2) w := by
      intro r
      simp [part, isAgg, run_underlying Try.underlying4, wC]
    have h0 := run_equalIn_string (P := Try.prog) w d 9 p.1 q.1 Try.underlying9
    have h1 := run_equalIn_string (P := Try.prog) w d 9 p.2.1 q.2.1 Try.underlying9
    have h2 : (Op.equalIn (d + 1) 4 (.bool p.2.2) (.bool q.2.2)).run Try.prog w = .ok (p.2.2 == q.2.2) w := by
      unfold Op.equalIn
      simp [run_underlying Try.underlying4]
    simp only [Op.eqFields, ne_eq, n0, n1, n2, not_false_eq_true, if_true, t0, t1, t2, o0, o1, o2, Sem.run_bind, p0, p1, p2, h0, Result.andThen_ok]
    generalize (p.1.toList == q.1.toList) = z
    cases z
    · rw [if_pos (by decide), Sem.run_pure, Bool.false_and]
    · rw [if_neg (by decide), Sem.run_bind, p1, Result.andThen_ok, Sem.run_bind, p1, Result.andThen_ok, Sem.run_bind, h1, Result.andThen_ok, Bool.true_and]
      generalize (p.2.1.toList == q.2.1.toList) = z
      cases z
      · rw [if_pos (by decide), Sem.run_pure, Bool.false_and]
      · rw [if_neg (by decide), Sem.run_bind, p2, Result.andThen_ok, Sem.run_bind, p2, Result.andThen_ok, Sem.run_bind, h2, Result.andThen_ok, Bool.true_and]
        generalize (p.2.2 == q.2.2) = z
        cases z
        · rw [if_pos (by decide), Sem.run_pure]
        · rw [if_neg (by decide), Sem.run_pure]
  · simp at h
theorem weq (p q : W3) : (p.1.toList == q.1.toList && (p.2.1.toList == q.2.1.toList && p.2.2 == q.2.2)) = decide (p = q) := by
  rw [Bool.eq_iff_iff, Bool.and_eq_true, Bool.and_eq_true, beq_iff_eq, beq_iff_eq, beq_iff_eq, decide_eq_true_iff]
  constructor
  · rintro ⟨h1, h2, h3⟩
    exact Prod.ext (kl_inj h1) (Prod.ext (kl_inj h2) h3)
  · rintro rfl
    exact ⟨rfl, rfl, rfl⟩
theorem write_equal (p q : W3) (w : World) : (Op.equalIn 10000 46 (.agg (wC p).toArray) (.agg (wC q).toArray)).run Try.prog w = .ok (decide (p = q)) w := by
  rw [← weq]
  exact write_equal_d 9998 p q w
theorem run_neq_w {o : Oper} {a : Act} {u : World} (s1 s2 : Nat) (c0 c1 : Array Value) (b : Bool) (ho : o.op = .binOp .neq 46 (.tmp s1) (.tmp s2) 46) (h1 : a.eval (.tmp s1) = .agg c0) (h2 : a.eval (.tmp s2) = .agg c1)
    (hz : (Op.equalIn 10000 46 (.agg c0) (.agg c1)).run Try.prog u = .ok b u) : (execOp a.eval o).run Try.prog u = .ok (.value (.bool (!b))) u := by
  have hg : Try.prog.eqGuardType Try.prog.depth 46 = false := by kernel_rfl
  unfold execOp
  simp [ho, h1, h2, eqGuard, hg, binOp, Op.equal, Op.maxDepth, hz]
theorem ix_w {w : World} {a : Addr} {n c i : Nat} {z : Int} (hz : z = (i : Int)) (h : i < n) : (Instr.indexAt 22 (.slice (some a) n c) (.int .i64 z)).run Try.prog w = .ok (.pointer (some (a.add (i * 3)))) w := by
  subst hz
  have h1 : (0 : Int) ≤ (i : Int) := by omega
  have h2 : (i : Int) < (n : Int) := by omega
  go_simp
set_option maxRecDepth 100000 in
set_option maxHeartbeats 4000000 in
theorem rsame_calls (l1 l2 : List W3) (A1 A2 : Option Addr) (n1 n2 c1 c2 : Nat) (w : World) (h1 : Row w A1 3 (l1.map wC)) (h2 : Row w A2 3 (l2.map wC)) (hn1 : l1.length = n1) (hn2 : l2.length = n2) (hl : n1 ≤ 140737488351232) :
    Calls Try.prog 19 #[.slice A1 n1 c1, .slice A2 n2 c2] w fun e w' => e = .returned (.bool (decide (l1 = l2))) ∧ Ext w w' := by
  have H1 := Lib.hid h1
  have H2 := Lib.hid h2
  have N1 := Lib.hid hn1
  have N2 := Lib.hid hn2
  clear h1 h2 hn1 hn2
  go_enter Try.func19, Try.ntmps19
  by_cases hn : n1 = n2
  · subst hn
    go_upto_region 4 with (fail)
    go_loopw [13] (fun i wr => ∃ (k : Nat), k ≤ n1 ∧ i = .int .i64 k ∧ Hid (l1.take k = l2.take k) ∧ Ext w wr) (fun i _ => n1 - (intOf i).toNat)
    case atStart => exact ⟨0, Nat.zero_le _, rfl, Lib.hid rfl, Ext.refl _⟩
    case round =>
      obtain ⟨k, hk, rfl, HT, hx⟩ := hrel
      by_cases hlt : k < n1
      · have hk1 : k < l1.length := by rw [N1.out]; exact hlt
        have hk2 : k < l2.length := by rw [N2.out]; exact hlt
        obtain ⟨a1, rfl, hc1⟩ := H1.out.get (i := k) (by simpa using hk1)
        obtain ⟨a2, rfl, hc2⟩ := H2.out.get (i := k) (by simpa using hk2)
        rw [List.getElem_map] at hc1 hc2
        have ht1 : l1.take (k + 1) = l1.take k ++ [l1[k]] := List.take_succ_eq_append_getElem hk1
        have ht2 : l2.take (k + 1) = l2.take k ++ [l2[k]] := List.take_succ_eq_append_getElem hk2
        have hne : l1[k] ≠ l2[k] → l1 ≠ l2 := fun h e => h (by subst e; rfl)
        obtain ⟨x, hxe⟩ : ∃ x, x = l1[k] := ⟨_, rfl⟩
        obtain ⟨y, hye⟩ : ∃ y, y = l2[k] := ⟨_, rfl⟩
        rw [← hxe] at hc1 ht1 hne
        rw [← hye] at hc2 ht2 hne
        have HL1 := Lib.hid (fun (u : World) (hu : Ext wr u) => show (Instr.loadAt 46 (.pointer (some (a1.add (k * 3))))).run Try.prog u = .ok (.agg (wC x).toArray) u from run_loadAt_row u (a1.add (k * 3)) 46 (wC x) _ (fun j v hj => (hx.trans hu).cell (hc1 j v hj)) Try.underlying46 rfl (by rw [w_info]; rfl))
        have HL2 := Lib.hid (fun (u : World) (hu : Ext wr u) => show (Instr.loadAt 46 (.pointer (some (a2.add (k * 3))))).run Try.prog u = .ok (.agg (wC y).toArray) u from run_loadAt_row u (a2.add (k * 3)) 46 (wC y) _ (fun j v hj => (hx.trans hu).cell (hc2 j v hj)) Try.underlying46 rfl (by rw [w_info]; rfl))
        have HEQ := Lib.hid (fun u => write_equal x y u)
        have HT1 := Lib.hid ht1
        have HT2 := Lib.hid ht2
        have HNE := Lib.hid hne
        obtain ⟨cs0, hcs0⟩ : ∃ cs0, cs0 = (wC x).toArray := ⟨_, rfl⟩
        obtain ⟨cs1, hcs1⟩ : ∃ cs1, cs1 = (wC y).toArray := ⟨_, rfl⟩
        rw [← hcs0] at HL1 HEQ
        rw [← hcs1] at HL2 HEQ
        clear hxe hye hc1 hc2 ht1 ht2 hne hcs0 hcs1 hk1 hk2
        by_cases hxy : x = y
        · rw [decide_eq_true hxy] at HEQ
          go_upto_region 6 with (fail)
          refine wp_region_ops (FInv [16, 17, 18, 19, 20, 21, 22, 23, 24] _ wr.drew [⟨0, none, 16, .val (.slice (some a1) n1 c1)⟩, ⟨1, none, 17, .val (.int .i64 (k : Int))⟩, ⟨2, none, 18, .val (.pointer (some (a1.add (k * 3))))⟩, ⟨3, none, 19, .val (.agg cs0)⟩, ⟨4, none, 20, .val (.slice (some a2) n1 c2)⟩, ⟨5, none, 21, .val (.int .i64 (k : Int))⟩, ⟨6, none, 22, .val (.pointer (some (a2.add (k * 3))))⟩, ⟨7, none, 23, .val (.agg cs1)⟩, ⟨8, none, 24, .val (.bool false)⟩]) (by kernel_rfl) (by kernel_rfl) FInv.start ?_ ?_
          · refine ⟨?o0, ?o1, ?o2, ?o3, ?o4, ?o5, ?o6, ?o7, ?o8, trivial⟩
            case o0 =>
              intro f a u h hfi hp hq
              have q0 : a.tmps[0]?.getD undef = .slice (some a1) n1 c1 := h.agree.att (by decide)
              exact h.yieldG rfl (wanted_none rfl) 16 rfl (by change 16 < 26; decide) rfl _ rfl (by go_simp)
            case o1 =>
              intro f a u h hfi hp hq
              have q5 : a.tmps[5]?.getD undef = .int .i64 (k : Int) := h.agree.att (by decide)
              exact h.yieldG rfl (wanted_none rfl) 17 rfl (by change 17 < 26; decide) rfl _ rfl (by go_simp)
            case o2 =>
              intro f a u h hfi hp hq
              exact h.yieldG rfl (wanted_none rfl) 18 rfl (by change 18 < 26; decide) rfl _ rfl (run_of_sem rfl (by rw [h.at_ 0 rfl (pre_of hp 0 rfl), h.at_ 1 rfl (pre_of hp 1 rfl)]; exact ix_w rfl hlt))
            case o3 =>
              intro f a u h hfi hp hq
              have hyu : Ext wr u := ((Ext.refl wr).drew).trans h.ext
              exact h.yieldG rfl (wanted_none rfl) 19 rfl (by change 19 < 26; decide) rfl _ rfl (run_of_sem rfl (by rw [h.at_ 2 rfl (pre_of hp 2 rfl)]; exact HL1.out u hyu))
            case o4 =>
              intro f a u h hfi hp hq
              have q1 : a.tmps[1]?.getD undef = .slice (some a2) n1 c2 := h.agree.att (by decide)
              exact h.yieldG rfl (wanted_none rfl) 20 rfl (by change 20 < 26; decide) rfl _ rfl (by go_simp)
            case o5 =>
              intro f a u h hfi hp hq
              have q5 : a.tmps[5]?.getD undef = .int .i64 (k : Int) := h.agree.att (by decide)
              exact h.yieldG rfl (wanted_none rfl) 21 rfl (by change 21 < 26; decide) rfl _ rfl (by go_simp)
            case o6 =>
              intro f a u h hfi hp hq
              exact h.yieldG rfl (wanted_none rfl) 22 rfl (by change 22 < 26; decide) rfl _ rfl (run_of_sem rfl (by rw [h.at_ 4 rfl (pre_of hp 4 rfl), h.at_ 5 rfl (pre_of hp 5 rfl)]; exact ix_w rfl hlt))
            case o7 =>
              intro f a u h hfi hp hq
              have hyu : Ext wr u := ((Ext.refl wr).drew).trans h.ext
              exact h.yieldG rfl (wanted_none rfl) 23 rfl (by change 23 < 26; decide) rfl _ rfl (run_of_sem rfl (by rw [h.at_ 6 rfl (pre_of hp 6 rfl)]; exact HL2.out u hyu))
            case o8 =>
              intro f a u h hfi hp hq
              exact h.yieldG rfl (wanted_none rfl) 24 rfl (by change 24 < 26; decide) rfl _ rfl (run_neq_w 19 23 cs0 cs1 true rfl (h.at_ 3 rfl (pre_of hp 3 rfl)) (h.at_ 7 rfl (pre_of hp 7 rfl)) (HEQ.out u))
          · intro f a u h hall hfar
            have hyu : Ext wr u := ((Ext.refl wr).drew).trans h.ext
            have e24 := h.at_ 8 rfl (hall 8 (by decide))
            have hag := h.agree.out
            simp only [List.foldl_cons, List.foldl_nil, Act.put, List.setIfInBounds_toArray, List.set_cons_zero, List.set_cons_succ, e24] at hag
            generalize a.eval (.tmp 16) = y16 at hag
            generalize a.eval (.tmp 17) = y17 at hag
            generalize a.eval (.tmp 18) = y18 at hag
            generalize a.eval (.tmp 19) = y19 at hag
            generalize a.eval (.tmp 20) = y20 at hag
            generalize a.eval (.tmp 21) = y21 at hag
            generalize a.eval (.tmp 22) = y22 at hag
            generalize a.eval (.tmp 23) = y23 at hag
            clear h hall hfar e24
            subst hag
            rw [hxy] at HT1
            go_wp2
            go_roundw
            case rel => exact ⟨k + 1, by omega, by go_num, Lib.hid (by rw [HT1.out, HT2.out, HT.out]), hx.trans hyu⟩
            case measure => simp [intOf]; omega
        · rw [decide_eq_false hxy] at HEQ
          go_upto_region 6 with (fail)
          refine wp_region_ops (FInv [16, 17, 18, 19, 20, 21, 22, 23, 24] _ wr.drew [⟨0, none, 16, .val (.slice (some a1) n1 c1)⟩, ⟨1, none, 17, .val (.int .i64 (k : Int))⟩, ⟨2, none, 18, .val (.pointer (some (a1.add (k * 3))))⟩, ⟨3, none, 19, .val (.agg cs0)⟩, ⟨4, none, 20, .val (.slice (some a2) n1 c2)⟩, ⟨5, none, 21, .val (.int .i64 (k : Int))⟩, ⟨6, none, 22, .val (.pointer (some (a2.add (k * 3))))⟩, ⟨7, none, 23, .val (.agg cs1)⟩, ⟨8, none, 24, .val (.bool true)⟩]) (by kernel_rfl) (by kernel_rfl) FInv.start ?_ ?_
          · refine ⟨?o0, ?o1, ?o2, ?o3, ?o4, ?o5, ?o6, ?o7, ?o8, trivial⟩
            case o0 =>
              intro f a u h hfi hp hq
              have q0 : a.tmps[0]?.getD undef = .slice (some a1) n1 c1 := h.agree.att (by decide)
              exact h.yieldG rfl (wanted_none rfl) 16 rfl (by change 16 < 26; decide) rfl _ rfl (by go_simp)
            case o1 =>
              intro f a u h hfi hp hq
              have q5 : a.tmps[5]?.getD undef = .int .i64 (k : Int) := h.agree.att (by decide)
              exact h.yieldG rfl (wanted_none rfl) 17 rfl (by change 17 < 26; decide) rfl _ rfl (by go_simp)
            case o2 =>
              intro f a u h hfi hp hq
              exact h.yieldG rfl (wanted_none rfl) 18 rfl (by change 18 < 26; decide) rfl _ rfl (run_of_sem rfl (by rw [h.at_ 0 rfl (pre_of hp 0 rfl), h.at_ 1 rfl (pre_of hp 1 rfl)]; exact ix_w rfl hlt))
            case o3 =>
              intro f a u h hfi hp hq
              have hyu : Ext wr u := ((Ext.refl wr).drew).trans h.ext
              exact h.yieldG rfl (wanted_none rfl) 19 rfl (by change 19 < 26; decide) rfl _ rfl (run_of_sem rfl (by rw [h.at_ 2 rfl (pre_of hp 2 rfl)]; exact HL1.out u hyu))
            case o4 =>
              intro f a u h hfi hp hq
              have q1 : a.tmps[1]?.getD undef = .slice (some a2) n1 c2 := h.agree.att (by decide)
              exact h.yieldG rfl (wanted_none rfl) 20 rfl (by change 20 < 26; decide) rfl _ rfl (by go_simp)
            case o5 =>
              intro f a u h hfi hp hq
              have q5 : a.tmps[5]?.getD undef = .int .i64 (k : Int) := h.agree.att (by decide)
              exact h.yieldG rfl (wanted_none rfl) 21 rfl (by change 21 < 26; decide) rfl _ rfl (by go_simp)
            case o6 =>
              intro f a u h hfi hp hq
              exact h.yieldG rfl (wanted_none rfl) 22 rfl (by change 22 < 26; decide) rfl _ rfl (run_of_sem rfl (by rw [h.at_ 4 rfl (pre_of hp 4 rfl), h.at_ 5 rfl (pre_of hp 5 rfl)]; exact ix_w rfl hlt))
            case o7 =>
              intro f a u h hfi hp hq
              have hyu : Ext wr u := ((Ext.refl wr).drew).trans h.ext
              exact h.yieldG rfl (wanted_none rfl) 23 rfl (by change 23 < 26; decide) rfl _ rfl (run_of_sem rfl (by rw [h.at_ 6 rfl (pre_of hp 6 rfl)]; exact HL2.out u hyu))
            case o8 =>
              intro f a u h hfi hp hq
              exact h.yieldG rfl (wanted_none rfl) 24 rfl (by change 24 < 26; decide) rfl _ rfl (run_neq_w 19 23 cs0 cs1 false rfl (h.at_ 3 rfl (pre_of hp 3 rfl)) (h.at_ 7 rfl (pre_of hp 7 rfl)) (HEQ.out u))
          · intro f a u h hall hfar
            have hyu : Ext wr u := ((Ext.refl wr).drew).trans h.ext
            have e24 := h.at_ 8 rfl (hall 8 (by decide))
            have hag := h.agree.out
            simp only [List.foldl_cons, List.foldl_nil, Act.put, List.setIfInBounds_toArray, List.set_cons_zero, List.set_cons_succ, e24] at hag
            generalize a.eval (.tmp 16) = y16 at hag
            generalize a.eval (.tmp 17) = y17 at hag
            generalize a.eval (.tmp 18) = y18 at hag
            generalize a.eval (.tmp 19) = y19 at hag
            generalize a.eval (.tmp 20) = y20 at hag
            generalize a.eval (.tmp 21) = y21 at hag
            generalize a.eval (.tmp 22) = y22 at hag
            generalize a.eval (.tmp 23) = y23 at hag
            clear h hall hfar e24
            subst hag
            have hres := HNE.out hxy
            go_wp2
            go_ret
            rw [decide_eq_false hres]
            exact ⟨rfl, hx.trans hyu⟩
      · obtain rfl : n1 = k := by omega
        have hres : l1 = l2 := by
          have h := HT.out
          rw [← N1.out, List.take_length] at h
          rw [h, N1.out, ← N2.out, List.take_length]
        clear HT
        go_wp2
        go_ret
        rw [decide_eq_true hres]
        exact ⟨rfl, hx⟩
  · have hn1 : ((n1 : Int) != (n2 : Int)) = true := by rw [bne_iff_ne]; omega
    have hres : l1 ≠ l2 := fun e => hn (by rw [← N1.out, ← N2.out, e])
    have HRES := Lib.hid hres
    clear hn hres
    go_wp2
    go_ret
    rw [decide_eq_false HRES.out]
    exact ⟨rfl, Ext.refl _⟩
end Go.Proofs.Ytnggdkpaofbaaaa
