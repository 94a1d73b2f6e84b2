/- The reference's Object: the last of the objects that bears the name; it is what a pool answers that was handed the objects. Printed by wip/mkrobj.py. -/
import Derived.Test.YthleaofgodkehaaPool
namespace Go.Proofs.Ythleaofgodkehaa
open Go.RowKit
set_option linter.unusedVariables false

theorem putAll_append (a b : List Ent1) : ∀ L, putAll (a ++ b) L = putAll b (putAll a L) := by
  induction a with
  | nil => intro L; rfl
  | cons o a ih => intro L; exact ih _
theorem at1_putAll_none (x : List UInt8) : ∀ (b : List Ent1) (L : List Ent1), (∀ p ∈ b, p.1 ≠ x) → at1 x (putAll b L) = at1 x L
  | [], L, _ => rfl
  | o :: b, L, h => by
    show at1 x (putAll b (put1 o.1 o.2 L)) = at1 x L
    rw [at1_putAll_none x b _ (fun p hp => h p (List.mem_cons_of_mem _ hp)), at1_put, if_neg]
    intro e
    exact h o (List.mem_cons_self ..) (eq_of_beq e).symm
theorem at1_putAll_last (x : List UInt8) (a : List Ent1) (o : Ent1) (b L : List Ent1) (ho : o.1 = x) (h : ∀ p ∈ b, p.1 ≠ x) : at1 x (putAll (a ++ o :: b) L) = some o.2 := by
  rw [putAll_append]
  show at1 x (putAll b (put1 o.1 o.2 (putAll a L))) = some o.2
  rw [at1_putAll_none x b _ h, at1_put, if_pos (by rw [ho]; exact beq_self_eq_true x)]
theorem run_eql_id {o : Oper} {a : Act} {u : World} (s1 s2 : Nat) (c0 c1 : Array Value) (b : Bool) (ho : o.op = .binOp .eql 38 (.tmp s1) (.tmp s2) 38) (h1 : a.eval (.tmp s1) = .agg c0) (h2 : a.eval (.tmp s2) = .agg c1)
    (hz : (Op.equalIn 10000 38 (.agg c0) (.agg c1)).run Try.prog u = .ok b u) : (execOp a.eval o).run Try.prog u = .ok (.value (.bool b)) u := by
  have hg : Try.prog.eqGuardType Try.prog.depth 38 = false := by kernel_rfl
  unfold execOp
  simp [ho, h1, h2, eqGuard, hg, binOp, Op.equal, Op.maxDepth, hz]
theorem f_ob0 (w : World) (p : Addr) : (Instr.fieldAt 46 (.pointer (some p)) 0).run Try.prog w = .ok (.pointer (some p)) w := by go_simp
theorem ix_obj {w : World} {a : Addr} {n c i : Nat} {z : Int} (hz : z = (i : Int)) (h : i < n) : (Instr.indexAt 23 (.slice (some a) n c) (.int .i64 z)).run Try.prog w = .ok (.pointer (some (a.add (i * 34)))) w := by
  subst hz
  have h1 : (0 : Int) ≤ (i : Int) := by omega
  have h2 : (i : Int) < (n : Int) := by omega
  go_simp

set_option maxRecDepth 50000 in
set_option maxHeartbeats 8000000 in
theorem robject_calls (os : List Ent1) (A : Option Addr) (n c : Nat) (x : List UInt8) (w : World) (hr : Row w A 34 (os.map obC)) (hn : os.length = n) (hl : n ≤ 140737488351232) (hi : ∀ p ∈ os, p.1.length = 33) (hx : x.length = 33) :
    Calls Try.prog 14 #[.slice A n c, .agg (bv x).toArray] w fun e w' => e = .returned (.tuple #[.string ((at1 x (putAll os [])).getD ByteArray.empty), .bool (at1 x (putAll os [])).isSome]) ∧ Ext w w' := by
  have Hr := Lib.hid hr
  have Hi := Lib.hid hi
  have Hn := Lib.hid hn
  have HX := Lib.hid hx
  clear hr hi hn hx
  go_enter Try.func14, Try.ntmps14
  obtain ⟨w1, hw1⟩ : ∃ w1, w1 = w.alloc (.cells (bv x).toArray 38) := ⟨_, rfl⟩
  have hx1 : Ext w w1 := by rw [hw1]; exact (Ext.refl _).alloc _
  have HO3 := Lib.hid (show Blk w1 w.heap.size 38 (bv x).toArray from by rw [hw1]; exact Blk.new w _ _)
  go_upto_region 2 with (fail)
  rw [← hw1]
  obtain ⟨g3, hg3⟩ : ∃ g3, g3 = w.heap.size := ⟨_, rfl⟩
  rw [← hg3] at HO3 ⊢
  clear hw1 hg3
  go_loopw [6] (fun i wr => ∃ (k : Nat) (z : Int), k ≤ n ∧ i = .int .i64 z ∧ z = (k : Int) - 1 ∧ Hid (∀ p ∈ os.drop k, p.1 ≠ x) ∧ Ext w1 wr) (fun i _ => (intOf i + 1).toNat)
  case atStart => exact ⟨n, (n : Int) - 1, Nat.le_refl _, by go_num, rfl, Lib.hid (fun p hp => by rw [← Hn.out, List.drop_length] at hp; cases hp), Ext.refl _⟩
  case round =>
    obtain ⟨k, z, hk, rfl, hz, HD, hxr⟩ := hrel
    cases k with
    | zero =>
      obtain rfl : z = -1 := by omega
      clear hz
      have hat : at1 x (putAll os []) = none := at1_putAll_none x os [] (by have := HD.out; rwa [List.drop_zero] at this)
      go_wp2
      go_ret2
      rw [hat]
      exact ⟨rfl, hx1.trans hxr⟩
    | succ j =>
      obtain rfl : z = (j : Int) := by omega
      clear hz
      have hjl : j < os.length := by rw [Hn.out]; omega
      obtain ⟨ad, rfl, hlc0⟩ := Hr.out.get (i := j) (by simpa using hjl)
      rw [List.getElem_map] at hlc0
      have hol := Hi.out _ (List.getElem_mem hjl)
      have hsp : os = os.take j ++ os[j] :: os.drop (j + 1) := by rw [List.getElem_cons_drop, List.take_append_drop]
      have hdr : os.drop j = os[j] :: os.drop (j + 1) := (List.getElem_cons_drop hjl).symm
      obtain ⟨o, ho⟩ : ∃ o, o = os[j] := ⟨_, rfl⟩
      rw [← ho] at hlc0 hol hsp hdr
      have HS := Lib.hid hsp
      have HDR := Lib.hid hdr
      have HOL := Lib.hid hol
      have HLC := Lib.hid (fun (u : World) (hu : Ext w1 u) (i : Nat) (v : Value) (hi : (obC o)[i]? = some v) => (hx1.trans hu).cell (hlc0 i v hi))
      have HZ := Lib.hid (fun (u : World) => id_equal o.1 x hol HX.out u)
      obtain ⟨bz, hbz⟩ : ∃ bz, bz = (o.1 == x) := ⟨_, rfl⟩
      simp only [← hbz] at HZ
      have HBZ := Lib.hid hbz
      clear ho hlc0 hol hsp hdr hbz
      have hj1 : j < n := by rw [← Hn.out]; exact hjl
      clear hjl
      have hp0 : (0 : Int) ≤ (j : Int) := by omega
      have hp1 : (j : Int) < (n : Int) := by omega
      have hbc : Cells wr (some (ad.add (j * 34))) (bv o.1) := fun i v hv => ⟨_, rfl, HLC.out wr hxr i v (by unfold obC; rw [List.getElem?_append_left (List.getElem?_eq_some_iff.1 hv).1]; exact hv)⟩
      have hst : wr.cell? ((ad.add (j * 34)).add 33) = some (.string o.2) := HLC.out wr hxr 33 _ (by unfold obC; rw [List.getElem?_append_right (by rw [bv_length, HOL.out]; exact Nat.le_refl _), bv_length, HOL.out]; rfl)
      have HBC := Lib.hid hbc
      have HST := Lib.hid hst
      have HO := Lib.hid (HO3.out.ext hxr)
      clear hbc hst
      obtain ⟨cs0, hcs0⟩ : ∃ cs0, cs0 = (bv o.1).toArray := ⟨_, rfl⟩
      obtain ⟨cs1, hcs1⟩ : ∃ cs1, cs1 = (bv x).toArray := ⟨_, rfl⟩
      rw [← hcs0, ← hcs1] at HZ
      have HL0 := Lib.hid (fun (u : World) (hu : Ext wr u) => show (Instr.loadAt 38 (.pointer (some (ad.add (j * 34))))).run Try.prog u = .ok (.agg cs0) u from by rw [hcs0]; exact ld_id HOL.out (HBC.out.ext hu))
      have HL1 := Lib.hid (fun (u : World) (hu : Ext wr u) => show (Instr.loadAt 38 (.pointer (some ⟨g3, 0, none⟩))).run Try.prog u = .ok (.agg cs1) u from by rw [hcs1]; exact ld_id HX.out (by have hc := (HO.out.ext hu).cells; rw [List.toList_toArray] at hc; exact hc))
      clear hcs0 hcs1
      cases bz
      · go_upto_region 4 with (fail)
        refine wp_region_ops (FInv [14, 15, 16, 17, 18, 19, 20] _ wr.drew [⟨0, none, 14, .val (.slice (some ad) n c)⟩, ⟨1, none, 15, .val (.int .i64 (j : Int))⟩, ⟨2, none, 16, .val (.pointer (some (ad.add (j * 34))))⟩, ⟨3, none, 17, .val (.pointer (some (ad.add (j * 34))))⟩, ⟨4, none, 18, .val (.agg cs0)⟩, ⟨5, none, 19, .val (.agg cs1)⟩, ⟨6, none, 20, .val (.bool false)⟩]) (by kernel_rfl) (by kernel_rfl) FInv.start ?_ ?_
        · refine ⟨?o0, ?o1, ?o2, ?o3, ?o4, ?o5, ?o6, trivial⟩
          case o0 =>
            intro f a u h hfi hp hq
            have q0 : a.tmps[0]?.getD undef = .slice (some ad) n c := h.agree.att (by decide)
            exact h.yieldG rfl (wanted_none rfl) 14 rfl (by change 14 < 26; decide) rfl _ rfl (by go_simp)
          case o1 =>
            intro f a u h hfi hp hq
            have q6 : a.tmps[6]?.getD undef = .int .i64 (j : Int) := h.agree.att (by decide)
            exact h.yieldG rfl (wanted_none rfl) 15 rfl (by change 15 < 26; decide) rfl _ rfl (by go_simp)
          case o2 =>
            intro f a u h hfi hp hq
            exact h.yieldG rfl (wanted_none rfl) 16 rfl (by change 16 < 26; decide) rfl _ rfl (run_of_sem rfl (by rw [h.at_ 0 rfl (pre_of hp 0 rfl), h.at_ 1 rfl (pre_of hp 1 rfl)]; exact ix_obj rfl hj1))
          case o3 =>
            intro f a u h hfi hp hq
            exact h.yieldG rfl (wanted_none rfl) 17 rfl (by change 17 < 26; decide) rfl _ rfl (run_of_sem rfl (by rw [h.at_ 2 rfl (pre_of hp 2 rfl)]; exact f_ob0 u _))
          case o4 =>
            intro f a u h hfi hp hq
            have hyu : Ext wr u := ((Ext.refl wr).drew).trans h.ext
            exact h.yieldG rfl (wanted_none rfl) 18 rfl (by change 18 < 26; decide) rfl _ rfl (run_of_sem rfl (by rw [h.at_ 3 rfl (pre_of hp 3 rfl)]; exact HL0.out u hyu))
          case o5 =>
            intro f a u h hfi hp hq
            have hyu : Ext wr u := ((Ext.refl wr).drew).trans h.ext
            exact h.yieldG rfl (wanted_none rfl) 19 rfl (by change 19 < 26; decide) rfl _ rfl (run_of_sem rfl (by rw [(show a.eval (.tmp 3) = .pointer (some ⟨g3, 0, none⟩) from h.agree.eval (by decide))]; exact HL1.out u hyu))
          case o6 =>
            intro f a u h hfi hp hq
            exact h.yieldG rfl (wanted_none rfl) 20 rfl (by change 20 < 26; decide) rfl _ rfl (run_eql_id 18 19 cs0 cs1 false rfl (h.at_ 4 rfl (pre_of hp 4 rfl)) (h.at_ 5 rfl (pre_of hp 5 rfl)) (HZ.out u))
        · intro f a u h hall hfar
          have hyu : Ext wr u := ((Ext.refl wr).drew).trans h.ext
          have e20 := h.at_ 6 rfl (hall 6 (by decide))
          have hag := h.agree.out
          simp only [List.foldl_cons, List.foldl_nil, Act.put, List.setIfInBounds_toArray, List.set_cons_zero, List.set_cons_succ, e20] at hag
          generalize a.eval (.tmp 14) = y14 at hag
          generalize a.eval (.tmp 15) = y15 at hag
          generalize a.eval (.tmp 16) = y16 at hag
          generalize a.eval (.tmp 17) = y17 at hag
          generalize a.eval (.tmp 18) = y18 at hag
          generalize a.eval (.tmp 19) = y19 at hag
          clear h hall hfar e20
          subst hag
          have hne : o.1 ≠ x := fun e => by have := HBZ.out; rw [e, beq_self_eq_true] at this; cases this
          go_wp2
          go_roundw
          case rel => exact ⟨j, (j : Int) - 1, by omega, by go_num, rfl, Lib.hid (fun p hp => by rw [HDR.out] at hp; exact (List.mem_cons.1 hp).elim (fun e => e ▸ hne) (fun h => HD.out p h)), hxr.trans hyu⟩
          case measure => simp [intOf]
      · go_upto_region 4 with (fail)
        refine wp_region_ops (FInv [14, 15, 16, 17, 18, 19, 20] _ wr.drew [⟨0, none, 14, .val (.slice (some ad) n c)⟩, ⟨1, none, 15, .val (.int .i64 (j : Int))⟩, ⟨2, none, 16, .val (.pointer (some (ad.add (j * 34))))⟩, ⟨3, none, 17, .val (.pointer (some (ad.add (j * 34))))⟩, ⟨4, none, 18, .val (.agg cs0)⟩, ⟨5, none, 19, .val (.agg cs1)⟩, ⟨6, none, 20, .val (.bool true)⟩]) (by kernel_rfl) (by kernel_rfl) FInv.start ?_ ?_
        · refine ⟨?o0, ?o1, ?o2, ?o3, ?o4, ?o5, ?o6, trivial⟩
          case o0 =>
            intro f a u h hfi hp hq
            have q0 : a.tmps[0]?.getD undef = .slice (some ad) n c := h.agree.att (by decide)
            exact h.yieldG rfl (wanted_none rfl) 14 rfl (by change 14 < 26; decide) rfl _ rfl (by go_simp)
          case o1 =>
            intro f a u h hfi hp hq
            have q6 : a.tmps[6]?.getD undef = .int .i64 (j : Int) := h.agree.att (by decide)
            exact h.yieldG rfl (wanted_none rfl) 15 rfl (by change 15 < 26; decide) rfl _ rfl (by go_simp)
          case o2 =>
            intro f a u h hfi hp hq
            exact h.yieldG rfl (wanted_none rfl) 16 rfl (by change 16 < 26; decide) rfl _ rfl (run_of_sem rfl (by rw [h.at_ 0 rfl (pre_of hp 0 rfl), h.at_ 1 rfl (pre_of hp 1 rfl)]; exact ix_obj rfl hj1))
          case o3 =>
            intro f a u h hfi hp hq
            exact h.yieldG rfl (wanted_none rfl) 17 rfl (by change 17 < 26; decide) rfl _ rfl (run_of_sem rfl (by rw [h.at_ 2 rfl (pre_of hp 2 rfl)]; exact f_ob0 u _))
          case o4 =>
            intro f a u h hfi hp hq
            have hyu : Ext wr u := ((Ext.refl wr).drew).trans h.ext
            exact h.yieldG rfl (wanted_none rfl) 18 rfl (by change 18 < 26; decide) rfl _ rfl (run_of_sem rfl (by rw [h.at_ 3 rfl (pre_of hp 3 rfl)]; exact HL0.out u hyu))
          case o5 =>
            intro f a u h hfi hp hq
            have hyu : Ext wr u := ((Ext.refl wr).drew).trans h.ext
            exact h.yieldG rfl (wanted_none rfl) 19 rfl (by change 19 < 26; decide) rfl _ rfl (run_of_sem rfl (by rw [(show a.eval (.tmp 3) = .pointer (some ⟨g3, 0, none⟩) from h.agree.eval (by decide))]; exact HL1.out u hyu))
          case o6 =>
            intro f a u h hfi hp hq
            exact h.yieldG rfl (wanted_none rfl) 20 rfl (by change 20 < 26; decide) rfl _ rfl (run_eql_id 18 19 cs0 cs1 true rfl (h.at_ 4 rfl (pre_of hp 4 rfl)) (h.at_ 5 rfl (pre_of hp 5 rfl)) (HZ.out u))
        · intro f a u h hall hfar
          have hyu : Ext wr u := ((Ext.refl wr).drew).trans h.ext
          have e20 := h.at_ 6 rfl (hall 6 (by decide))
          have hag := h.agree.out
          simp only [List.foldl_cons, List.foldl_nil, Act.put, List.setIfInBounds_toArray, List.set_cons_zero, List.set_cons_succ, e20] at hag
          generalize a.eval (.tmp 14) = y14 at hag
          generalize a.eval (.tmp 15) = y15 at hag
          generalize a.eval (.tmp 16) = y16 at hag
          generalize a.eval (.tmp 17) = y17 at hag
          generalize a.eval (.tmp 18) = y18 at hag
          generalize a.eval (.tmp 19) = y19 at hag
          clear h hall hfar e20
          subst hag
          have he : o.1 = x := eq_of_beq HBZ.out.symm
          have hat : at1 x (putAll os []) = some o.2 := by rw [HS.out]; exact at1_putAll_last x _ o _ [] he HD.out
          have hst : u.cell? ⟨(ad.add (j * 34)).block, (ad.add (j * 34)).off + 33, none⟩ = some (.string o.2) := hyu.cell HST.out
          go_wp2
          go_ret2
          rw [hat]
          exact ⟨rfl, hx1.trans (hxr.trans hyu)⟩
end Go.Proofs.Ythleaofgodkehaa
