/- tree.Pool: objects in memory, by their names. Printed by wip/mkpool.py. -/
import Derived.Test.YtcnhbodemabbdaaDoorQ25
import Derived.Test.YtcnhbodemabbdaaDoorQ27
namespace Go.Proofs.YtcnhbodemabbdaaDoor
open Go.RowKit
set_option linter.unusedVariables false

abbrev MT : TypeId := 104
theorem mt_under : Tryd.prog.underlying MT = some (.map 27 9) := Tryd.underlying104
/-- An object in memory: its name, its bytes. -/
def obC (o : Ent1) : List Value := bv o.1 ++ [.string o.2]
theorem obC_len {o : Ent1} (h : o.1.length = 33) : (obC o).length = 34 := by simp [obC, bv, h]
theorem obC_one (o : Ent1) : ∀ v ∈ obC o, v.oneCell' = true := by
  intro v hv
  rcases List.mem_append.1 hv with h | h
  · exact bv_cells _ v h
  · rw [List.mem_singleton] at h; subst h; rfl
theorem ob_info : (Tryd.prog.info? 35).map (·.size) = some 34 := by kernel_rfl
theorem ob_cells {w : World} {g : Nat} {o : Ent1} (h : Blk w g 35 (obC o).toArray) (hl : o.1.length = 33) : Cells w (some ⟨g, 0, none⟩) (bv o.1) ∧ w.cell? ⟨g, 33, none⟩ = some (.string o.2) := by
  have hb : (bv o.1).length = 33 := by rw [bv_length, hl]
  have hc : ∀ j v, (obC o)[j]? = some v → w.cell? ⟨g, j, none⟩ = some v := fun j v hv => by
    rw [h.cell, ← Array.getElem?_toList, List.toList_toArray]
    exact hv
  refine ⟨fun j v hv => ⟨_, rfl, ?_⟩, hc 33 _ ?_⟩
  · rw [add_new]
    refine hc j v ?_
    unfold obC
    rw [List.getElem?_append_left (List.getElem?_eq_some_iff.1 hv).1]
    exact hv
  · unfold obC
    rw [List.getElem?_append_right (by omega), hb]
    rfl
/-- A pool: its block, its map's block, its entries. -/
structure PoolAt (w : World) (g b : Nat) (L : List Ent1) : Prop where
  blk : Blk w g 106 #[.map (some b)]
  map : MapB w b L
  ids : ∀ p ∈ L, p.1.length = 33
theorem PoolAt.ext {w w' : World} {g b : Nat} {L : List Ent1} (h : PoolAt w g b L) (k : Ext w w') : PoolAt w' g b L := ⟨h.blk.ext k, h.map.ext k, h.ids⟩
theorem MapB.ne {w : World} {b : Nat} {L : List Ent1} (h : MapB w b L) {p : Addr} {v : Value} (hc : w.cell? p = some v) : p.block ≠ b := by
  obtain ⟨es, c, h1, _⟩ := h
  rintro rfl
  simp [World.cell?, h1] at hc
theorem MapB.ne_blk {w : World} {b g : Nat} {L : List Ent1} {T : TypeId} {cs : Array Value} (h : MapB w b L) (hb : Blk w g T cs) : g ≠ b := by
  obtain ⟨es, c, h1, _⟩ := h
  rintro rfl
  unfold Blk at hb
  rw [h1] at hb
  cases hb
theorem PoolAt.past {w w' : World} {g b : Nat} {L : List Ent1} (h : PoolAt w g b L) {row : Option Nat} (hg : w.grownBy w' row) (h1 : some g ≠ row) (h2 : some b ≠ row) : PoolAt w' g b L := ⟨h.blk.grown hg h1, h.map.grown hg h2, h.ids⟩
def putAll : List Ent1 → List Ent1 → List Ent1
  | [], L => L
  | o :: os, L => putAll os (put1 o.1 o.2 L)
theorem putAll_snoc (os : List Ent1) (o : Ent1) : ∀ L, putAll (os ++ [o]) L = put1 o.1 o.2 (putAll os L) := by
  induction os with
  | nil => intro L; rfl
  | cons p os ih => intro L; exact ih _
theorem putAll_ids : ∀ (os L : List Ent1), (∀ p ∈ os, p.1.length = 33) → (∀ p ∈ L, p.1.length = 33) → ∀ p ∈ putAll os L, p.1.length = 33
  | [], L, _, h => h
  | o :: os, L, h1, h2 => putAll_ids os _ (fun p hp => h1 p (List.mem_cons_of_mem _ hp)) (put1_ids _ _ (h1 o (List.mem_cons_self ..)) L h2)

set_option maxRecDepth 50000 in
theorem newPool_calls (w : World) : Calls Tryd.prog 31 #[] w fun e w' => ∃ g b, e = .returned (.pointer (some ⟨g, 0, none⟩)) ∧ w.heap.size ≤ g ∧ w.heap.size ≤ b ∧ PoolAt w' g b [] ∧ Ext w w' := by
  have hmm := @run_makeMap Tryd.prog
  go_enter Tryd.func31, Tryd.ntmps31
  go_wp2
  go_ret
  have hm := MapB.new w
  exact ⟨_, _, rfl, by simp, Nat.le_refl _, ⟨Blk.new_at (by simp) _ _, hm.ext ((Ext.refl _).alloc _), fun p h => by cases h⟩, ((Ext.refl _).alloc _).alloc _⟩
theorem ld_string {w : World} {p : Addr} {s : ByteArray} (h : w.cell? p = some (.string s)) : (Instr.loadAt 9 (.pointer (some p))).run Tryd.prog w = .ok (.string s) w := by go_simp
theorem wp_map_up {P : Program} {o : Oper} {a : Act} {w : World} {K : Act → World → Prop} {Q : Exit → Act → World → Prop} (ty : TypeId) (x y z : Operand) (ho : o.op = .mapUpdate ty x y z) (hod : o.dst = none) {m k v : Value} {w' : World} (hx : a.eval x = m) (hy : a.eval y = k) (hz : a.eval z = v)
    (hrun : (Instr.mapUpdate ty m k v).run P w = .ok () w') (hk : K a w') : o.wp P a w K Q := by
  unfold Oper.wp execOp
  simp only [ho, hx, hy, hz, Sem.run_bind, hrun, Result.andThen_ok, Sem.run_pure]
  simpa [Oper.upon, hod, Act.put] using hk

set_option maxRecDepth 50000 in
set_option maxHeartbeats 8000000 in
theorem put_calls (gp b : Nat) (L os : List Ent1) (A : Option Addr) (n c : Nat) (w : World) (h : PoolAt w gp b L) (hr : Row w A 34 (os.map obC)) (hn : os.length = n) (hl : n ≤ 140737488351232) (hi : ∀ p ∈ os, p.1.length = 33) :
    Calls Tryd.prog 32 #[.pointer (some ⟨gp, 0, none⟩), .slice A n c] w fun e w' => e = .returned (.tuple #[]) ∧ PoolAt w' gp b (putAll os L) ∧ w.grownBy w' (some b) := by
  have Hh := Lib.hid h
  have Hr := Lib.hid hr
  have Hi := Lib.hid hi
  have Hn := Lib.hid hn
  clear h hr hi hn
  go_enter Tryd.func32, Tryd.ntmps32
  go_upto_region 1 with (fail)
  go_loopw [8] (fun i wr => ∃ (k : Nat), k ≤ n ∧ i = .int .i64 k ∧ Hid (PoolAt wr gp b (putAll (os.take k) L)) ∧ w.grownBy wr (some b)) (fun i _ => n - (intOf i).toNat)
  case atStart => exact ⟨0, Nat.zero_le _, rfl, Hh, World.grownBy.refl _ _⟩
  case round =>
    obtain ⟨k, hk, rfl, HP, hg⟩ := hrel
    by_cases hlt : k < n
    · have hkl : k < os.length := by rw [Hn.out]; exact hlt
      obtain ⟨x, rfl, hlc0⟩ := Hr.out.get (i := k) (by simpa using hkl)
      rw [List.getElem_map] at hlc0
      have hol := Hi.out _ (List.getElem_mem hkl)
      have htk : putAll (os.take (k + 1)) L = put1 os[k].1 os[k].2 (putAll (os.take k) L) := by rw [List.take_succ_eq_append_getElem hkl, putAll_snoc]
      obtain ⟨o, ho⟩ : ∃ o, o = os[k] := ⟨_, rfl⟩
      rw [← ho] at hlc0 hol htk
      have hlc : ∀ (j : Nat) (v : Value), (obC o)[j]? = some v → wr.cell? ((x.add (k * 34)).add j) = some v := fun j v hj => by
        have h0 := hlc0 j v hj
        exact hg.cell h0 (fun e => Hh.out.map.ne h0 (Option.some.inj e))
      have HOL := Lib.hid hol
      have HTK := Lib.hid htk
      clear ho hlc0 hol htk
      have hp0 : (0 : Int) ≤ (k : Int) := by omega
      have hp1 : (k : Int) < (n : Int) := by omega
      go_upto_region 4 with (first
        | (refine wpList_load_row_ rfl 35 (.tmp 10) rfl (x.add (k * 34)) rfl (obC o) _ hlc Tryd.underlying35 rfl (by rw [ob_info, obC_len HOL.out]) ?_)
        | (refine wpList_store_blk rfl 35 (.tmp 5) (.tmp 11) rfl rfl wr.heap.size (obC o).toArray rfl rfl _ _ (Blk.new wr _ _) (by rw [List.size_toArray, obC_len HOL.out]; rfl) (by kernel_rfl) (obC_one o) ?_; intro w3 hb3 hg3; have hx3 : Ext wr w3 := ((Ext.refl _).alloc _).grown_ hg3 (by simp)))
      obtain ⟨g5, hg5⟩ : ∃ g5, g5 = wr.heap.size := ⟨_, rfl⟩
      rw [← hg5] at hb3 ⊢
      have HO5 := Lib.hid hb3
      have HB := Lib.hid (HP.out.ext hx3)
      clear hlc hg3 hb3 hg5
      refine wp_region_opsL (FInv [14, 15, 16, 17, 18, 19, 20, 21] _ w3.drew [⟨0, none, 14, .val (.pointer (some ⟨gp, 0, none⟩))⟩, ⟨1, none, 15, .val (.pointer (some ⟨gp, 0, none⟩))⟩, ⟨2, none, 16, .val (.pointer (some ⟨gp, 0, none⟩))⟩, ⟨3, none, 17, .val (.map (some b))⟩, ⟨4, none, 18, .val (.pointer (some ⟨g5, 0, none⟩))⟩, ⟨5, none, 19, .val (.agg (bv o.1).toArray)⟩, ⟨6, none, 20, .val (.pointer (some ⟨g5, 33, none⟩))⟩, ⟨7, none, 21, .val (.string o.2)⟩]) 8 (by kernel_rfl) (by kernel_rfl) rfl rfl FInv.start ?_ ?_
      · refine ⟨?o0, ?o1, ?o2, ?o3, ?o4, ?o5, ?o6, ?o7, trivial⟩
        case o0 =>
          intro f a u h hfi hp hq hcl
          have q0 : a.tmps[0]?.getD undef = .pointer (some ⟨gp, 0, none⟩) := h.agree.att (by decide)
          exact h.yieldG rfl (wanted_none rfl) 14 rfl (by change 14 < 23; decide) rfl _ rfl (by go_simp)
        case o1 =>
          intro f a u h hfi hp hq hcl
          have q14 := h.att 0 rfl (pre_of hp 0 rfl)
          exact h.yieldG rfl (wanted_none rfl) 15 rfl (by change 15 < 23; decide) rfl _ rfl (by go_simp)
        case o2 =>
          intro f a u h hfi hp hq hcl
          have q15 := h.att 1 rfl (pre_of hp 1 rfl)
          exact h.yieldG rfl (wanted_none rfl) 16 rfl (by change 16 < 23; decide) rfl _ rfl (by go_simp)
        case o3 =>
          intro f a u h hfi hp hq hcl
          have hyu : Ext w3 u := ((Ext.refl w3).drew).trans h.ext
          have z := (HB.out.ext hyu).blk.cell 0
          have q16 := h.att 2 rfl (pre_of hp 2 rfl)
          exact h.yieldG rfl (wanted_none rfl) 17 rfl (by change 17 < 23; decide) rfl _ rfl (by go_simp)
        case o4 =>
          intro f a u h hfi hp hq hcl
          have q5 : a.tmps[5]?.getD undef = .pointer (some ⟨g5, 0, none⟩) := h.agree.att (by decide)
          exact h.yieldG rfl (wanted_none rfl) 18 rfl (by change 18 < 23; decide) rfl _ rfl (by go_simp)
        case o5 =>
          intro f a u h hfi hp hq hcl
          have hyu : Ext w3 u := ((Ext.refl w3).drew).trans h.ext
          exact h.yieldG rfl (wanted_none rfl) 19 rfl (by change 19 < 23; decide) rfl _ rfl (run_of_sem rfl (by rw [h.at_ 4 rfl (pre_of hp 4 rfl)]; exact ld_id HOL.out (ob_cells (HO5.out.ext hyu) HOL.out).1))
        case o6 =>
          intro f a u h hfi hp hq hcl
          have q5 : a.tmps[5]?.getD undef = .pointer (some ⟨g5, 0, none⟩) := h.agree.att (by decide)
          exact h.yieldG rfl (wanted_none rfl) 20 rfl (by change 20 < 23; decide) rfl _ rfl (by go_simp)
        case o7 =>
          intro f a u h hfi hp hq hcl
          have hyu : Ext w3 u := ((Ext.refl w3).drew).trans h.ext
          exact h.yieldG rfl (wanted_none rfl) 21 rfl (by change 21 < 23; decide) rfl _ rfl (run_of_sem rfl (by rw [h.at_ 6 rfl (pre_of hp 6 rfl)]; exact ld_string (ob_cells (HO5.out.ext hyu) HOL.out).2))
      · intro f a u h hall
        have hyu : Ext w3 u := ((Ext.refl w3).drew).trans h.ext
        obtain ⟨w4, hrun, hm4, hg4⟩ := run_mapUpdate_id MT mt_under (HB.out.ext hyu).map (HB.out.ext hyu).ids o.1 HOL.out o.2
        have e17 := h.at_ 3 rfl (hall 3 (by decide))
        have e19 := h.at_ 5 rfl (hall 5 (by decide))
        have e21 := h.at_ 7 rfl (hall 7 (by decide))
        refine wpOp_of rfl rfl (wp_map_up MT (.tmp 17) (.tmp 19) (.tmp 21) rfl rfl e17 e19 e21 hrun ?_)
        have hag := h.agree.out
        simp only [List.foldl_cons, List.foldl_nil, Act.put, List.setIfInBounds_toArray, List.set_cons_zero, List.set_cons_succ] at hag
        generalize a.eval (.tmp 14) = y14 at hag
        generalize a.eval (.tmp 15) = y15 at hag
        generalize a.eval (.tmp 16) = y16 at hag
        generalize a.eval (.tmp 17) = y17 at hag
        generalize a.eval (.tmp 18) = y18 at hag
        generalize a.eval (.tmp 19) = y19 at hag
        generalize a.eval (.tmp 20) = y20 at hag
        generalize a.eval (.tmp 21) = y21 at hag
        clear h hall
        subst hag
        have hx3u := hx3.trans hyu
        have hP4 : PoolAt w4 gp b (put1 o.1 o.2 (putAll (os.take k) L)) := ⟨(HB.out.ext hyu).blk.grown hg4 (fun e => HB.out.map.ne_blk HB.out.blk (Option.some.inj e)), hm4, put1_ids _ _ HOL.out _ HB.out.ids⟩
        rw [← HTK.out] at hP4
        have HP4 := Lib.hid hP4
        have hgw : w.grownBy w4 (some b) := (hg.trans ⟨hx3u.os, hx3u.tape, hx3u.output, hx3u.size, fun j hj _ => hx3u.block j hj⟩).trans hg4
        clear hP4 hm4 hrun e17 e19 e21
        go_wp2
        go_roundw
        case rel => exact ⟨k + 1, by omega, by go_num, HP4, hgw⟩
        case measure => simp [intOf]; omega
    · obtain rfl : k = n := by omega
      have hP := HP.out
      rw [← Hn.out, List.take_length] at hP
      go_wp2
      go_end0
      exact ⟨rfl, hP, hg⟩
theorem exec_lookup {o : Oper} {ρ : Operand → Value} {t : TypeId} {x y : Operand} {c : Bool} {vx vy : Value} (ho : o.op = .lookup t x y c) (hx : ρ x = vx) (hy : ρ y = vy) : execOp ρ o = (do pure (Next.value (← Instr.lookup t vx vy c))) := by
  unfold execOp
  rw [ho]
  simp only [hx, hy]

set_option maxRecDepth 50000 in
set_option maxHeartbeats 8000000 in
theorem pobject_calls (gp b : Nat) (L : List Ent1) (x : List UInt8) (w : World) (h : PoolAt w gp b L) (hx : x.length = 33) :
    Calls Tryd.prog 142 #[.pointer (some ⟨gp, 0, none⟩), .agg (bv x).toArray] w fun e w' => e = .returned (.tuple #[.string ((at1 x L).getD ByteArray.empty), .int .i64 (if (at1 x L).isSome then 0 else 5)]) ∧ Ext w w' := by
  have HX := Lib.hid hx
  have hlk := fun (u : World) (hu : PoolAt u gp b L) => run_lookup_id MT mt_under hu.map hu.ids x hx
  obtain ⟨S, hS⟩ : ∃ S, S = (at1 x L).getD ByteArray.empty := ⟨_, rfl⟩
  rw [← hS]
  simp only [← hS] at hlk
  have hemp : at1 x L = none → S = ByteArray.empty := fun e => by rw [hS, e]; rfl
  clear hS
  cases hat : (at1 x L).isSome with
  | true =>
    rw [hat] at hlk
    go_enter Tryd.func142, Tryd.ntmps142
    obtain ⟨w1, hw1⟩ : ∃ w1, w1 = w.alloc (.cells (bv x).toArray 27) := ⟨_, rfl⟩
    have hx1 : Ext w w1 := by rw [hw1]; exact (Ext.refl _).alloc _
    have HO3 := Lib.hid (show Blk w1 w.heap.size 27 (bv x).toArray from by rw [hw1]; exact Blk.new w _ _)
    have HB := Lib.hid (h.ext hx1)
    have HLK := Lib.hid (fun (u : World) (hu : Ext w1 u) => hlk u (HB.out.ext hu))
    go_upto_region 3 with (fail)
    rw [← hw1]
    obtain ⟨g3, hg3⟩ : ∃ g3, g3 = w.heap.size := ⟨_, rfl⟩
    rw [← hg3] at HO3 ⊢
    clear hw1 hg3 hlk h
    refine wp_region_ops (FInv [11, 12, 13, 14, 15, 16, 10, 17, 18, 6, 7] _ w1.drew [⟨0, none, 11, .val (.pointer (some ⟨gp, 0, none⟩))⟩, ⟨1, none, 12, .val (.pointer (some ⟨gp, 0, none⟩))⟩, ⟨2, none, 13, .val (.pointer (some ⟨gp, 0, none⟩))⟩, ⟨3, none, 14, .val (.map (some b))⟩, ⟨4, none, 15, .val (.agg (bv x).toArray)⟩, ⟨5, none, 16, .val (.tuple #[.string S, .bool true])⟩, ⟨6, none, 10, .val (.tuple #[.string S, .bool true])⟩, ⟨7, none, 17, .val (.string S)⟩, ⟨8, none, 18, .val (.bool true)⟩, ⟨9, none, 6, .val (.string S)⟩, ⟨10, none, 7, .val (.bool true)⟩]) (by kernel_rfl) (by kernel_rfl) FInv.start ?_ ?_
    · refine ⟨?o0, ?o1, ?o2, ?o3, ?o4, ?o5, ?o6, ?o7, ?o8, ?o9, ?o10, trivial⟩
      case o0 =>
        intro f a u h hfi hp hq
        have q0 : a.tmps[0]?.getD undef = .pointer (some ⟨gp, 0, none⟩) := h.agree.att (by decide)
        exact h.yieldG rfl (wanted_none rfl) 11 rfl (by change 11 < 22; decide) rfl _ rfl (by go_simp)
      case o1 =>
        intro f a u h hfi hp hq
        have q11 := h.att 0 rfl (pre_of hp 0 rfl)
        exact h.yieldG rfl (wanted_none rfl) 12 rfl (by change 12 < 22; decide) rfl _ rfl (by go_simp)
      case o2 =>
        intro f a u h hfi hp hq
        have q12 := h.att 1 rfl (pre_of hp 1 rfl)
        exact h.yieldG rfl (wanted_none rfl) 13 rfl (by change 13 < 22; decide) rfl _ rfl (by go_simp)
      case o3 =>
        intro f a u h hfi hp hq
        have hyu : Ext w1 u := ((Ext.refl w1).drew).trans h.ext
        have z := (HB.out.ext hyu).blk.cell 0
        have q13 := h.att 2 rfl (pre_of hp 2 rfl)
        exact h.yieldG rfl (wanted_none rfl) 14 rfl (by change 14 < 22; decide) rfl _ rfl (by go_simp)
      case o4 =>
        intro f a u h hfi hp hq
        have hyu : Ext w1 u := ((Ext.refl w1).drew).trans h.ext
        exact h.yieldG rfl (wanted_none rfl) 15 rfl (by change 15 < 22; decide) rfl _ rfl (run_of_sem rfl (by rw [(show a.eval (.tmp 3) = .pointer (some ⟨g3, 0, none⟩) from h.agree.eval (by decide))]; exact ld_id HX.out (by have hc := (HO3.out.ext hyu).cells; rw [List.toList_toArray] at hc; exact hc)))
      case o5 =>
        intro f a u h hfi hp hq
        have hyu : Ext w1 u := ((Ext.refl w1).drew).trans h.ext
        exact h.yieldG rfl (wanted_none rfl) 16 rfl (by change 16 < 22; decide) rfl _ rfl (run_of_sem (exec_lookup rfl (h.at_ 3 rfl (pre_of hp 3 rfl)) (h.at_ 4 rfl (pre_of hp 4 rfl))) (HLK.out u hyu))
      case o6 =>
        intro f a u h hfi hp hq
        have q16 := h.att 5 rfl (pre_of hp 5 rfl)
        exact h.yieldG rfl (wanted_none rfl) 10 rfl (by change 10 < 22; decide) rfl _ rfl (by go_simp)
      case o7 =>
        intro f a u h hfi hp hq
        have q10 := h.att 6 rfl (pre_of hp 6 rfl)
        exact h.yieldG rfl (wanted_none rfl) 17 rfl (by change 17 < 22; decide) rfl _ rfl (by go_simp)
      case o8 =>
        intro f a u h hfi hp hq
        have q10 := h.att 6 rfl (pre_of hp 6 rfl)
        exact h.yieldG rfl (wanted_none rfl) 18 rfl (by change 18 < 22; decide) rfl _ rfl (by go_simp)
      case o9 =>
        intro f a u h hfi hp hq
        have q17 := h.att 7 rfl (pre_of hp 7 rfl)
        exact h.yieldG rfl (wanted_none rfl) 6 rfl (by change 6 < 22; decide) rfl _ rfl (by go_simp)
      case o10 =>
        intro f a u h hfi hp hq
        have q18 := h.att 8 rfl (pre_of hp 8 rfl)
        exact h.yieldG rfl (wanted_none rfl) 7 rfl (by change 7 < 22; decide) rfl _ rfl (by go_simp)
    · intro f a u h hall hfar
      have hyu : Ext w1 u := ((Ext.refl w1).drew).trans h.ext
      have e6 := h.at_ 9 rfl (hall 9 (by decide))
      have e7 := h.at_ 10 rfl (hall 10 (by decide))
      have hag := h.agree.out
      simp only [List.foldl_cons, List.foldl_nil, Act.put, List.setIfInBounds_toArray, List.set_cons_zero, List.set_cons_succ, e6, e7] at hag
      generalize a.eval (.tmp 11) = y11 at hag
      generalize a.eval (.tmp 12) = y12 at hag
      generalize a.eval (.tmp 13) = y13 at hag
      generalize a.eval (.tmp 14) = y14 at hag
      generalize a.eval (.tmp 15) = y15 at hag
      generalize a.eval (.tmp 16) = y16 at hag
      generalize a.eval (.tmp 10) = y10 at hag
      generalize a.eval (.tmp 17) = y17 at hag
      generalize a.eval (.tmp 18) = y18 at hag
      clear h hall hfar e6 e7
      subst hag
      go_wp2
      go_ret2
      exact ⟨rfl, hx1.trans hyu⟩
  | false =>
    rw [hat] at hlk
    have hS0 := hemp (by cases hq : at1 x L with | none => rfl | some s => rw [hq] at hat; cases hat)
    subst hS0
    go_enter Tryd.func142, Tryd.ntmps142
    obtain ⟨w1, hw1⟩ : ∃ w1, w1 = w.alloc (.cells (bv x).toArray 27) := ⟨_, rfl⟩
    have hx1 : Ext w w1 := by rw [hw1]; exact (Ext.refl _).alloc _
    have HO3 := Lib.hid (show Blk w1 w.heap.size 27 (bv x).toArray from by rw [hw1]; exact Blk.new w _ _)
    have HB := Lib.hid (h.ext hx1)
    have HLK := Lib.hid (fun (u : World) (hu : Ext w1 u) => hlk u (HB.out.ext hu))
    go_upto_region 3 with (fail)
    rw [← hw1]
    obtain ⟨g3, hg3⟩ : ∃ g3, g3 = w.heap.size := ⟨_, rfl⟩
    rw [← hg3] at HO3 ⊢
    clear hw1 hg3 hlk h
    refine wp_region_ops (FInv [11, 12, 13, 14, 15, 16, 10, 17, 18, 6, 7] _ w1.drew [⟨0, none, 11, .val (.pointer (some ⟨gp, 0, none⟩))⟩, ⟨1, none, 12, .val (.pointer (some ⟨gp, 0, none⟩))⟩, ⟨2, none, 13, .val (.pointer (some ⟨gp, 0, none⟩))⟩, ⟨3, none, 14, .val (.map (some b))⟩, ⟨4, none, 15, .val (.agg (bv x).toArray)⟩, ⟨5, none, 16, .val (.tuple #[.string ByteArray.empty, .bool false])⟩, ⟨6, none, 10, .val (.tuple #[.string ByteArray.empty, .bool false])⟩, ⟨7, none, 17, .val (.string ByteArray.empty)⟩, ⟨8, none, 18, .val (.bool false)⟩, ⟨9, none, 6, .val (.string ByteArray.empty)⟩, ⟨10, none, 7, .val (.bool false)⟩]) (by kernel_rfl) (by kernel_rfl) FInv.start ?_ ?_
    · refine ⟨?o0, ?o1, ?o2, ?o3, ?o4, ?o5, ?o6, ?o7, ?o8, ?o9, ?o10, trivial⟩
      case o0 =>
        intro f a u h hfi hp hq
        have q0 : a.tmps[0]?.getD undef = .pointer (some ⟨gp, 0, none⟩) := h.agree.att (by decide)
        exact h.yieldG rfl (wanted_none rfl) 11 rfl (by change 11 < 22; decide) rfl _ rfl (by go_simp)
      case o1 =>
        intro f a u h hfi hp hq
        have q11 := h.att 0 rfl (pre_of hp 0 rfl)
        exact h.yieldG rfl (wanted_none rfl) 12 rfl (by change 12 < 22; decide) rfl _ rfl (by go_simp)
      case o2 =>
        intro f a u h hfi hp hq
        have q12 := h.att 1 rfl (pre_of hp 1 rfl)
        exact h.yieldG rfl (wanted_none rfl) 13 rfl (by change 13 < 22; decide) rfl _ rfl (by go_simp)
      case o3 =>
        intro f a u h hfi hp hq
        have hyu : Ext w1 u := ((Ext.refl w1).drew).trans h.ext
        have z := (HB.out.ext hyu).blk.cell 0
        have q13 := h.att 2 rfl (pre_of hp 2 rfl)
        exact h.yieldG rfl (wanted_none rfl) 14 rfl (by change 14 < 22; decide) rfl _ rfl (by go_simp)
      case o4 =>
        intro f a u h hfi hp hq
        have hyu : Ext w1 u := ((Ext.refl w1).drew).trans h.ext
        exact h.yieldG rfl (wanted_none rfl) 15 rfl (by change 15 < 22; decide) rfl _ rfl (run_of_sem rfl (by rw [(show a.eval (.tmp 3) = .pointer (some ⟨g3, 0, none⟩) from h.agree.eval (by decide))]; exact ld_id HX.out (by have hc := (HO3.out.ext hyu).cells; rw [List.toList_toArray] at hc; exact hc)))
      case o5 =>
        intro f a u h hfi hp hq
        have hyu : Ext w1 u := ((Ext.refl w1).drew).trans h.ext
        exact h.yieldG rfl (wanted_none rfl) 16 rfl (by change 16 < 22; decide) rfl _ rfl (run_of_sem (exec_lookup rfl (h.at_ 3 rfl (pre_of hp 3 rfl)) (h.at_ 4 rfl (pre_of hp 4 rfl))) (HLK.out u hyu))
      case o6 =>
        intro f a u h hfi hp hq
        have q16 := h.att 5 rfl (pre_of hp 5 rfl)
        exact h.yieldG rfl (wanted_none rfl) 10 rfl (by change 10 < 22; decide) rfl _ rfl (by go_simp)
      case o7 =>
        intro f a u h hfi hp hq
        have q10 := h.att 6 rfl (pre_of hp 6 rfl)
        exact h.yieldG rfl (wanted_none rfl) 17 rfl (by change 17 < 22; decide) rfl _ rfl (by go_simp)
      case o8 =>
        intro f a u h hfi hp hq
        have q10 := h.att 6 rfl (pre_of hp 6 rfl)
        exact h.yieldG rfl (wanted_none rfl) 18 rfl (by change 18 < 22; decide) rfl _ rfl (by go_simp)
      case o9 =>
        intro f a u h hfi hp hq
        have q17 := h.att 7 rfl (pre_of hp 7 rfl)
        exact h.yieldG rfl (wanted_none rfl) 6 rfl (by change 6 < 22; decide) rfl _ rfl (by go_simp)
      case o10 =>
        intro f a u h hfi hp hq
        have q18 := h.att 8 rfl (pre_of hp 8 rfl)
        exact h.yieldG rfl (wanted_none rfl) 7 rfl (by change 7 < 22; decide) rfl _ rfl (by go_simp)
    · intro f a u h hall hfar
      have hyu : Ext w1 u := ((Ext.refl w1).drew).trans h.ext
      have e6 := h.at_ 9 rfl (hall 9 (by decide))
      have e7 := h.at_ 10 rfl (hall 10 (by decide))
      have hag := h.agree.out
      simp only [List.foldl_cons, List.foldl_nil, Act.put, List.setIfInBounds_toArray, List.set_cons_zero, List.set_cons_succ, e6, e7] at hag
      generalize a.eval (.tmp 11) = y11 at hag
      generalize a.eval (.tmp 12) = y12 at hag
      generalize a.eval (.tmp 13) = y13 at hag
      generalize a.eval (.tmp 14) = y14 at hag
      generalize a.eval (.tmp 15) = y15 at hag
      generalize a.eval (.tmp 16) = y16 at hag
      generalize a.eval (.tmp 10) = y10 at hag
      generalize a.eval (.tmp 17) = y17 at hag
      generalize a.eval (.tmp 18) = y18 at hag
      clear h hall hfar e6 e7
      subst hag
      go_wp2
      go_ret2
      exact ⟨rfl, hx1.trans hyu⟩
end Go.Proofs.YtcnhbodemabbdaaDoor
