/- Layer 16's reference: a tree's objects; whether two lists of objects are the same. Printed by wip/mktreeref.py. -/
import Derived.Test.YtcnhbodemabbdaaDoorQ35
import Derived.Test.YtcnhbodemabbdaaDoorQ40
import Derived.Test.YtcnhbodemabbdaaDoorQ41
namespace Go.Proofs.YtcnhbodemabbdaaDoor
open Go.RowKit
set_option linter.unusedVariables false

theorem wpList_append_o (w : World) {ops : Array Oper} {rest : List Oper} {o : Oper} {a : Act} {Q : Exit → Act → World → Prop} (hgd : o.guard = none) (s x : Operand)
    (ho : o.op = .call { callee := .builtin .append, args := #[s, x], argTypes := #[28, 28] })
    (B : Nat) (v : Value) (xs : List Ent2) (hs : a.eval s = v) (hown : OwnO B w v xs) (A : Option Addr) (y : Ent2) (hx : a.eval x = .slice A 1 1) (hr : Cells w A (obC y)) (hy : y.1.length = 33)
    (hlen : xs.length ≤ 10000000) (hbase : B ≤ w.heap.size)
    (h : ∀ v' w', OwnO B w' v' (xs ++ [y]) → w.grownBy w' v.ownBlock → wpList Tryd.prog ops Q rest (a.put o.dst v') w') : wpList Tryd.prog ops Q (o :: rest) a w :=
  wpList_plain hgd fun _ hK => wp_append w s x 28 ho B 35 (.agg (bv idNone ++ [Value.string ByteArray.empty]).toArray) 34 56 Tryd.underlying28 obI (by decide) (by decide) v xs.length (xs.map obC).flatten hs hown A 1 1 (obC y) hx
    (obC_len hy) hr (obC_one y) (by simp only [maxLen]; omega) (by omega) hbase fun v' w' h2 h3 _ => hK _ _ (h v' w' (ownO_snoc h2) h3)
theorem wpList_append_k (w : World) {ops : Array Oper} {rest : List Oper} {o : Oper} {a : Act} {Q : Exit → Act → World → Prop} (hgd : o.guard = none) (s x : Operand)
    (ho : o.op = .call { callee := .builtin .append, args := #[s, x], argTypes := #[71, 71] })
    (B : Nat) (v : Value) (xs : List Kd) (hs : a.eval s = v) (hown : OwnK B w v xs) (A : Option Addr) (y : Kd) (hx : a.eval x = .slice A 1 1) (hr : Cells w A (kdC y)) (hy : y.2.length = 33)
    (hlen : xs.length ≤ 10000000) (hbase : B ≤ w.heap.size)
    (h : ∀ v' w', OwnK B w' v' (xs ++ [y]) → w.grownBy w' v.ownBlock → wpList Tryd.prog ops Q rest (a.put o.dst v') w') : wpList Tryd.prog ops Q (o :: rest) a w :=
  wpList_plain hgd fun _ hK => wp_append w s x 71 ho B 77 (.agg (Value.string ByteArray.empty :: bv idNone).toArray) 34 56 Tryd.underlying71 kdI (by decide) (by decide) v xs.length (xs.map kdC).flatten hs hown A 1 1 (kdC y) hx
    (kdC_len hy) hr (kdC_one y) (by simp only [maxLen]; omega) (by omega) hbase fun v' w' h2 h3 _ => hK _ _ (h v' w' (ownK_snoc h2) h3)
theorem flat_dropG {sz : Nat} : ∀ {css : List (List Value)}, (∀ cs ∈ css, cs.length = sz) → ∀ q, css.flatten.drop (q * sz) = (css.drop q).flatten
  | css, h, 0 => by simp
  | [], h, q + 1 => by simp
  | a :: t, h, q + 1 => by
    have ha := h a (List.mem_cons_self ..)
    rw [List.flatten_cons, Nat.succ_mul, Nat.add_comm, List.drop_append, List.drop_succ_cons]
    rw [List.drop_of_length_le (by omega), List.nil_append, ha, Nat.add_sub_cancel_left]
    exact flat_dropG (fun cs hcs => h cs (List.mem_cons_of_mem _ hcs)) q
theorem build_kidz (w : World) (x : List UInt8) (hx : x.length = 33) : (Instr.build 77 #[(1, .agg (bv x).toArray)]).run Tryd.prog w = .ok (.agg (kdC (ByteArray.empty, x)).toArray) w := by
  obtain ⟨b0, b1, b2, b3, b4, b5, b6, b7, b8, b9, b10, b11, b12, b13, b14, b15, b16, b17, b18, b19, b20, b21, b22, b23, b24, b25, b26, b27, b28, b29, b30, b31, b32, rfl⟩ := list33 hx
  exact run_build w 77 _ _ (by kernel_rfl)
theorem rtree_leaf (cc : List Pr) (A : Option Addr) (L c : Nat) (w : World) (hr : Row w A 2 (cc.map prC)) (hL : cc.length = L) (hLc : L ≤ c) (h4 : L ≤ 4) (hp : PrsOk cc) :
    Calls Tryd.prog 38 #[.agg #[.slice A L c, .slice none 0 0]] w fun e w' => e = .returned (.string (bstr (leafT cc).bytes)) ∧ Ext w w' :=
  rtree_calls (leafT cc) A none L 0 c 0 w ⟨hL, rfl, hLc, Nat.le_refl _, hr, Cells.row (Cells.nil _ _) (fun cs hcs => by cases hcs) (by decide), by omega, by omega, fun p hp' => by have := hp.each p hp'; omega, fun p hp' => by cases hp'⟩ (leafT_good hp (by omega))
theorem rtree_up (k : UInt8) (cc : List Kd) (A : Option Addr) (L c : Nat) (w : World) (hr : Row w A 34 (cc.map kdC)) (hL : cc.length = L) (hLc : L ≤ c) (h2 : 2 ≤ L) (h3 : L ≤ 3) (hp : RowOk k cc) (hk : 0 < idN k) :
    Calls Tryd.prog 38 #[.agg #[.slice none 0 0, .slice A L c]] w fun e w' => e = .returned (.string (bstr (upT cc).bytes)) ∧ Ext w w' :=
  rtree_calls (upT cc) none A 0 L 0 c w ⟨rfl, hL, Nat.le_refl _, hLc, Cells.row (Cells.nil _ _) (fun cs hcs => by cases hcs) (by decide), hr, by omega, by omega, (fun p hp' => by cases hp'), (fun p hp' => by have := hp.each p hp'; exact ⟨by omega, this.2.1⟩)⟩ (upT_good hk hp (by omega) (by omega))
set_option maxRecDepth 100000 in
set_option maxHeartbeats 4000000 in
theorem robj_calls (k : UInt8) (t : Tr) (w : World) (hl : t.bytes.length ≤ 200) (o : Ent2) (ho : o = objT k t) (hT : Tab w) :
    Calls Tryd.prog 37 #[.int .u8 k.toNat, .string (bstr t.bytes)] w fun e w' => e = .returned (.agg (obC o).toArray) ∧ Ext w w' := by
  have hof := fun (u : World) => rof_calls k t.bytes u (by omega)
  have hx33 : (idPad (idName k t.bytes)).length = 33 := idPad_len (idName_len _ _)
  have ho1 : o = (idPad (idName k t.bytes), bstr t.bytes) := ho
  unfold idv at hof
  obtain ⟨x, hx⟩ : ∃ x, x = idPad (idName k t.bytes) := ⟨_, rfl⟩
  obtain ⟨s, hs⟩ : ∃ s, s = bstr t.bytes := ⟨_, rfl⟩
  rw [← hs] at hof ho1 ⊢
  rw [← hx] at hx33 hof ho1
  subst ho1
  have HOF := Lib.hid hof
  have HX := Lib.hid hx33
  clear hof hs hx hl hx33 ho
  go_enter Tryd.func37, Tryd.ntmps37
  obtain ⟨w1, hw1⟩ : ∃ w1, w1 = w.alloc (.cells (obC (idNone, ByteArray.empty)).toArray 35) := ⟨_, rfl⟩
  have hx1 : Ext w w1 := by rw [hw1]; exact (Ext.refl _).alloc _
  have hb1 : Blk w1 w.heap.size 35 (obC (idNone, ByteArray.empty)).toArray := by rw [hw1]; exact Blk.new w _ _
  go_upto_region 1 with (fail)
  rw [show (#[.int .u8 0, .int .u8 0, .int .u8 0, .int .u8 0, .int .u8 0, .int .u8 0, .int .u8 0, .int .u8 0, .int .u8 0, .int .u8 0, .int .u8 0, .int .u8 0, .int .u8 0, .int .u8 0, .int .u8 0, .int .u8 0, .int .u8 0, .int .u8 0, .int .u8 0, .int .u8 0, .int .u8 0, .int .u8 0, .int .u8 0, .int .u8 0, .int .u8 0, .int .u8 0, .int .u8 0, .int .u8 0, .int .u8 0, .int .u8 0, .int .u8 0, .int .u8 0, .int .u8 0, .string ⟨#[]⟩] : Array Value) = (obC (idNone, ByteArray.empty)).toArray from rfl, ← hw1]
  obtain ⟨g4, hg4⟩ : ∃ g, g = w.heap.size := ⟨_, rfl⟩
  have hwg : w.heap.size ≤ g4 := by omega
  rw [← hg4] at hb1 ⊢
  have HB1 := Lib.hid hb1
  clear hw1 hb1 hg4
  go_wp2_with (first
    | (go_at_call 43; (with_reducible refine (HOF.out w1).mono ?_); rintro e w2 ⟨rfl, hx2⟩; have HB2 := Lib.hid (HB1.out.ext hx2); clear HB1)
    | (refine wpList_build2 rfl 0 1 (.tmp 7) (.tmp 8) rfl (.agg (bv x).toArray) (.string s) (.agg (obC (x, s)).toArray) rfl rfl (build_obj _ x s HX.out) ?_)
    | (refine wpList_store_blk rfl 35 (.tmp 4) (.tmp 9) rfl rfl g4 (obC (x, s)).toArray rfl rfl 35 (obC (idNone, ByteArray.empty)).toArray HB2.out (by rw [List.size_toArray, List.size_toArray, obC_len (show ((x, s) : Ent2).1.length = 33 from HX.out)]; rfl) (by kernel_rfl) (fun v hv => obC_one _ v (by simpa using hv)) ?_; intro w3 hb3 hg3; have hx3 := (hx1.trans hx2).grown_ hg3 (fun j e => by cases e; exact hwg)))
  exact bodyPost_ret (results_cell_row (P := Tryd.prog) (fn := Tryd.f37) rfl _ _ _ _ (obC (x, s)).toArray _ _ rfl hb3 Tryd.underlying35 rfl (by rw [List.size_toArray, obC_len (show ((x, s) : Ent2).1.length = 33 from HX.out)]; kernel_rfl)) rfl ⟨rfl, hx3⟩
theorem size_idT (w : World) : (sizeOf 27).run Tryd.prog w = .ok 33 w := by go_simp
theorem obj_held : Tryd.prog.stoodInHeld 35 = false := by kernel_rfl
theorem obj_under : Tryd.prog.underlying 35 = some (.struct (Tryd.prog.fieldsOf 35)) := by
  unfold Program.fieldsOf
  rw [Tryd.underlying35]
theorem obj_fields : (Tryd.prog.fieldsOf 35).toList.map (fun f => (f.name == "_", f.type, f.offset)) = [(false, 27, 0), (false, 9, 33)] := by kernel_rfl
/-- An object is itself. -/
theorem obj_equal_d (d : Nat) (p : Ent2) (hp : p.1.length = 33) (w : World) : (Op.equalIn (d + 4) 35 (.agg (obC p).toArray) (.agg (obC p).toArray)).run Tryd.prog w = .ok true w := by
  rw [run_equalIn_struct w (d + 3) 35 _ _ obj_under obj_held]
  have hf := obj_fields
  generalize (Tryd.prog.fieldsOf 35).toList = l at hf ⊢
  have h := congrArg List.length hf
  rw [List.length_map] at h
  rcases l with _ | ⟨f0, _ | ⟨f1, _ | ⟨f2, l⟩⟩⟩
  · cases h
  · cases h
  · simp only [List.map_cons, List.map_nil, List.cons.injEq, Prod.mk.injEq, and_true, beq_eq_false_iff_ne, ne_eq] at hf
    obtain ⟨⟨n0, t0, o0⟩, ⟨n1, t1, o1⟩⟩ := hf
    have hlen : (bv p.1).length = 33 := by rw [bv_length]; exact hp
    have p1 : (part 9 (obC p).toArray 33).run Tryd.prog w = .ok (.string p.2) w := by
      have e : (obC p).toArray[33]? = some (.string p.2) := by
        rw [List.getElem?_toArray]
        show (bv p.1 ++ [Value.string p.2])[33]? = _
        rw [List.getElem?_append_right (by omega), hlen]
        rfl
      have e2 : (obC p)[33]? = some (.string p.2) := by rw [← List.getElem?_toArray]; exact e
      simp [part, isAgg, run_underlying Tryd.underlying9, e2]
    have p0 : (part 27 (obC p).toArray 0).run Tryd.prog w = .ok (.agg (bv p.1).toArray) w := by
      have e : (obC p).toArray.extract 0 (0 + 33) = (bv p.1).toArray := by
        apply Array.ext'
        rw [Array.toList_extract, List.toList_toArray, List.toList_toArray, List.extract_eq_drop_take']
        show ((bv p.1 ++ [Value.string p.2]).take 33).drop 0 = bv p.1
        rw [List.drop_zero, ← hlen, List.take_left]
      have hsz := size_idT w
      simp only [part, isAgg, Sem.run_bind, run_underlying Tryd.underlying27, Result.andThen_ok, Sem.run_pure, if_true, hsz, e]
    have h1 := run_equalIn_string (P := Tryd.prog) w (d + 2) 9 p.2 p.2 Tryd.underlying9
    have h0 := id_equal_d d p.1 p.1 hp hp w
    rw [beq_self_eq_true] at h0 h1
    simp only [Op.eqFields, ne_eq, n0, n1, not_false_eq_true, if_true, t0, t1, o0, o1, Sem.run_bind, p0, h0, Result.andThen_ok]
    rw [if_neg (by decide), Sem.run_bind, p1, Result.andThen_ok, Sem.run_bind, p1, Result.andThen_ok, Sem.run_bind, h1, Result.andThen_ok, if_neg (by decide), Sem.run_pure]
  · simp at h
theorem obj_equal (p : Ent2) (hp : p.1.length = 33) (w : World) : (Op.equalIn 10000 35 (.agg (obC p).toArray) (.agg (obC p).toArray)).run Tryd.prog w = .ok true w := obj_equal_d 9996 p hp w
theorem ix_obj {w : World} {a : Addr} {n c i : Nat} {z : Int} (hz : z = (i : Int)) (h : i < n) : (Instr.indexAt 28 (.slice (some a) n c) (.int .i64 z)).run Tryd.prog w = .ok (.pointer (some (a.add (i * 34)))) w := by
  subst hz
  have h1 : (0 : Int) ≤ (i : Int) := by omega
  have h2 : (i : Int) < (n : Int) := by omega
  go_simp
theorem obj_info : (Tryd.prog.info? 35).map (·.size) = some 34 := by kernel_rfl
theorem ld_obj {w : World} {p : Addr} {r : Ent2} (hr : r.1.length = 33) (h : ∀ j v, (obC r)[j]? = some v → w.cell? (p.add j) = some v) : (Instr.loadAt 35 (.pointer (some p))).run Tryd.prog w = .ok (.agg (obC r).toArray) w :=
  run_loadAt_row w p 35 (obC r) _ h Tryd.underlying35 rfl (by rw [obj_info, obC_len hr])
theorem ob_row {w : World} {a : Option Addr} {os : List Ent2} (h : Row w a 34 (os.map obC)) {i : Nat} (hi : i < os.length) : ∃ x, a = some x ∧ ∀ j v, (obC os[i])[j]? = some v → w.cell? ((x.add (i * 34)).add j) = some v := by
  obtain ⟨x, hx, hc⟩ := h.get (i := i) (by simpa using hi)
  rw [List.getElem_map] at hc
  exact ⟨x, hx, hc⟩
set_option maxRecDepth 100000 in
set_option maxHeartbeats 4000000 in
theorem rsameO_calls (os : List Ent2) (pa pb : Option Addr) (P pc pd : Nat) (w : World) (hp : os.length = P) (h1 : Row w pa 34 (os.map obC)) (h2 : Row w pb 34 (os.map obC)) (hb : P ≤ 140737488351232) (hi : ∀ x ∈ os, x.1.length = 33) :
    Calls Tryd.prog 16 #[.slice pa P pc, .slice pb P pd] w fun e w' => e = .returned (.bool true) ∧ Ext w w' := by
  have H1 := Lib.hid h1
  have H2 := Lib.hid h2
  have HP := Lib.hid hp
  have HI := Lib.hid hi
  clear h1 h2 hp hi
  go_enter Tryd.func16, Tryd.ntmps16
  go_wp2
  go_loopw [13, 4] (fun i v wr => ∃ (k : Nat), k ≤ P ∧ i = .int .i64 k ∧ Ext w wr) (fun i _ _ => P - (intOf i).toNat)
  case atStart => exact ⟨0, Nat.zero_le _, rfl, Ext.refl _⟩
  case round =>
    obtain ⟨k, hk, rfl, hx⟩ := hrel
    by_cases hlt : k < P
    · have hkl : k < os.length := by rw [HP.out]; exact hlt
      obtain ⟨x, rfl, r0⟩ := ob_row (H1.out.ext hx) hkl
      obtain ⟨y, rfl, s0⟩ := ob_row (H2.out.ext hx) hkl
      have hql : (os[k]).1.length = 33 := HI.out _ (List.getElem_mem hkl)
      generalize os[k] = p at r0 s0 hql
      obtain ⟨cs, hcs⟩ : ∃ cs, cs = (obC p).toArray := ⟨_, rfl⟩
      have z := fun u => obj_equal p hql u
      rw [← hcs] at z
      have HCS := Lib.hid hcs
      have HQL := Lib.hid hql
      have R0 := Lib.hid r0
      have S0 := Lib.hid s0
      clear hcs hql r0 s0
      go_upto_region 6 with (fail)
      refine wp_region_ops (FInv [16, 17, 18, 19, 20, 21, 22, 23, 24] _ wr.drew [⟨0, none, 16, .val (.slice (some x) P pc)⟩, ⟨1, none, 17, .val (.int .i64 (k : Int))⟩, ⟨2, none, 18, .val (.pointer (some (x.add (k * 34))))⟩, ⟨3, none, 19, .val (.agg cs)⟩, ⟨4, none, 20, .val (.slice (some y) P pd)⟩, ⟨5, none, 21, .val (.int .i64 (k : Int))⟩, ⟨6, none, 22, .val (.pointer (some (y.add (k * 34))))⟩, ⟨7, none, 23, .val (.agg cs)⟩, ⟨8, none, 24, .val (.bool false)⟩]) (by kernel_rfl) (by kernel_rfl) FInv.start ?_ ?_
      · refine ⟨?o0, ?o1, ?o2, ?o3, ?o4, ?o5, ?o6, ?o7, ?o8, trivial⟩
        case o0 =>
          intro f a u h hfi hp hq
          have q0 : a.tmps[0]?.getD undef = .slice (some x) P pc := h.agree.att (by decide)
          exact h.yieldG rfl (wanted_none rfl) 16 rfl (by change 16 < 26; decide) rfl _ rfl (by go_simp)
        case o1 =>
          intro f a u h hfi hp hq
          have q5 : a.tmps[5]?.getD undef = .int .i64 (k : Int) := h.agree.att (by decide)
          exact h.yieldG rfl (wanted_none rfl) 17 rfl (by change 17 < 26; decide) rfl _ rfl (by go_simp)
        case o2 =>
          intro f a u h hfi hp hq
          exact h.yieldG rfl (wanted_none rfl) 18 rfl (by change 18 < 26; decide) rfl _ rfl (run_of_sem rfl (by rw [h.at_ 0 rfl (pre_of hp 0 rfl), h.at_ 1 rfl (pre_of hp 1 rfl)]; exact ix_obj rfl hlt))
        case o3 =>
          intro f a u h hfi hp hq
          have hyu : Ext wr u := ((Ext.refl wr).drew).trans h.ext
          exact h.yieldG rfl (wanted_none rfl) 19 rfl (by change 19 < 26; decide) rfl _ rfl (run_of_sem rfl (by rw [h.at_ 2 rfl (pre_of hp 2 rfl)]; exact (by rw [HCS.out]; exact ld_obj HQL.out (fun j v hj => hyu.cell (R0.out j v hj)))))
        case o4 =>
          intro f a u h hfi hp hq
          have q1 : a.tmps[1]?.getD undef = .slice (some y) P pd := h.agree.att (by decide)
          exact h.yieldG rfl (wanted_none rfl) 20 rfl (by change 20 < 26; decide) rfl _ rfl (by go_simp)
        case o5 =>
          intro f a u h hfi hp hq
          have q5 : a.tmps[5]?.getD undef = .int .i64 (k : Int) := h.agree.att (by decide)
          exact h.yieldG rfl (wanted_none rfl) 21 rfl (by change 21 < 26; decide) rfl _ rfl (by go_simp)
        case o6 =>
          intro f a u h hfi hp hq
          exact h.yieldG rfl (wanted_none rfl) 22 rfl (by change 22 < 26; decide) rfl _ rfl (run_of_sem rfl (by rw [h.at_ 4 rfl (pre_of hp 4 rfl), h.at_ 5 rfl (pre_of hp 5 rfl)]; exact ix_obj rfl hlt))
        case o7 =>
          intro f a u h hfi hp hq
          have hyu : Ext wr u := ((Ext.refl wr).drew).trans h.ext
          exact h.yieldG rfl (wanted_none rfl) 23 rfl (by change 23 < 26; decide) rfl _ rfl (run_of_sem rfl (by rw [h.at_ 6 rfl (pre_of hp 6 rfl)]; exact (by rw [HCS.out]; exact ld_obj HQL.out (fun j v hj => hyu.cell (S0.out j v hj)))))
        case o8 =>
          intro f a u h hfi hp hq
          have z := z u
          have q19 := h.att 3 rfl (pre_of hp 3 rfl)
          have q23 := h.att 7 rfl (pre_of hp 7 rfl)
          exact h.yieldG rfl (wanted_none rfl) 24 rfl (by change 24 < 26; decide) rfl _ rfl (by go_simp)
      · intro f a u h hall hfar
        have hyu : Ext wr u := ((Ext.refl wr).drew).trans h.ext
        have e24 := h.at_ 8 rfl (hall 8 (by decide))
        have hag := h.agree.out
        simp only [List.foldl_cons, List.foldl_nil, Act.put, List.setIfInBounds_toArray, List.set_cons_zero, List.set_cons_succ, e24] at hag
        generalize a.eval (.tmp 16) = y16 at hag
        generalize a.eval (.tmp 17) = y17 at hag
        generalize a.eval (.tmp 18) = y18 at hag
        generalize a.eval (.tmp 19) = y19 at hag
        generalize a.eval (.tmp 20) = y20 at hag
        generalize a.eval (.tmp 21) = y21 at hag
        generalize a.eval (.tmp 22) = y22 at hag
        generalize a.eval (.tmp 23) = y23 at hag
        clear h hall hfar e24
        subst hag
        go_wp2
        go_roundw
        case rel => exact ⟨k + 1, by omega, by go_num, hx.trans hyu⟩
        case measure => simp [intOf]; omega
    · obtain rfl : k = P := by omega
      go_wp2
      go_ret
      exact ⟨rfl, hx⟩
/-- What the reference answers. -/
def RBuildP (k : UInt8) (ps : List Pr) (w : World) (e : Ending) (w' : World) : Prop := (∃ v, e = .returned v ∧ OwnO w.heap.size w' v (buildT k ps).1) ∧ Ext w w'
theorem RBuildP.of {k : UInt8} {ps : List Pr} {w w' : World} {v : Value} {B : Nat} {outs : List Ent2} (h : OwnO B w' v outs) (hB : B = w.heap.size) (e : (buildT k ps).1 = outs) (hx : Ext w w') : RBuildP k ps w (.returned v) w' := by
  subst hB
  exact ⟨⟨v, rfl, by rw [e]; exact h⟩, hx⟩
set_option maxRecDepth 100000 in
set_option maxHeartbeats 16000000 in
theorem rbuild_calls (k : UInt8) (ps : List Pr) (A : Option Addr) (n c : Nat) (w : World) (hr : Row w A 2 (ps.map prC)) (hn : ps.length = n) (hnc : n ≤ c) (hk0 : 0 < idN k) (hg : goodT ps = true) (hT : Tab w) :
    Calls Tryd.prog 15 #[.int .u8 k.toNat, .slice A n c] w (RBuildP k ps w) := by
  have hn256 : n ≤ 256 := by
    unfold goodT at hg
    simp only [Bool.and_eq_true, decide_eq_true_eq] at hg
    omega
  have HP : Hid (PrsOk ps) := Lib.hid (prs_ok (by unfold goodT at hg; simp only [Bool.and_eq_true] at hg; exact hg.2))
  obtain ⟨B, hBe⟩ : ∃ b, b = w.heap.size := ⟨_, rfl⟩
  have hwB : w.heap.size ≤ B := by omega
  have HBE := Lib.hid hBe
  have HC0 : Hid (Cells w A ((ps.drop 0).map prC).flatten) := Lib.hid (Row.cells hr (by decide))
  have HN := Lib.hid hn
  have HT := Lib.hid hT
  have HK0 := Lib.hid hk0
  have hB0 : B ≤ w.heap.size := by omega
  clear hr hn hT hg hk0 hBe
  go_enter Tryd.func15, Tryd.ntmps15
  go_upto_region 4 with (fail)
  go_loopg [5, 6, 7] n (fun gk vo vk vr wr => ∃ (m : Nat) (outs : List Ent2) (ks : List Kd) (Ar : Option Addr) (L cr : Nat), vr = .slice Ar L cr ∧ m + L = n ∧ L ≤ gk ∧ L ≤ cr ∧ (m = 0 ∨ 0 < L) ∧ Hid (OwnO B wr vo outs) ∧ Hid (OwnK B wr vk ks) ∧ Hid (Cells w Ar ((ps.drop m).map prC).flatten) ∧ Hid (LeafSt k ps n m outs ks) ∧ Ext w wr ∧ B ≤ wr.heap.size)
  case atStart => exact ⟨0, [], [], A, n, c, rfl, by omega, by omega, hnc, .inl rfl, Lib.hid (OwnO.nil _ _), Lib.hid (OwnK.nil _ _), HC0, Lib.hid (.inl ⟨.inl rfl, rfl, rfl⟩), Ext.refl _, hB0⟩
  case round =>
    clear HC0 hB0
    obtain ⟨m, outs, ks, Ar, L, cr, rfl, hmL, hLg, hLc, hm0L, HOO, HOK, HCE, HST, hx, hBw⟩ := hrel
    obtain ⟨hol, hkl⟩ := leafSt_len HST.out HN.out hn256
    obtain ⟨vo, hvo⟩ : ∃ v, v = u5 := ⟨_, rfl⟩
    obtain ⟨vk, hvk⟩ : ∃ v, v = u6 := ⟨_, rfl⟩
    subst hvo
    subst hvk
    by_cases h4 : 4 < L
    · have h4i : (4 : Int) < (L : Int) := by omega
      have hq0i : (0 : Int) < (4 : Int) := by decide
      obtain ⟨cc, hcc⟩ : ∃ x, x = (ps.drop m).take 4 := ⟨_, rfl⟩
      have hL : cc.length = 4 := by rw [hcc, List.length_take, List.length_drop, HN.out]; omega
      have HPN : Hid (((ps.drop m).map prC).flatten.length = L * 2) := Lib.hid (by rw [flat_len (sz := 2) _ (fun cs hcs => by obtain ⟨p, _, rfl⟩ := List.mem_map.1 hcs; rfl), List.length_map, List.length_drop, HN.out]; congr 1; omega)
      have HCC : Hid (PrsOk cc ∧ cc.length ≤ 4) := Lib.hid (by rw [hcc]; exact ⟨(HP.out.drop _).take _, by rw [List.length_take]; omega⟩)
      have HCL := Lib.hid hL
      have HCD := Lib.hid hcc
      obtain ⟨o, ho⟩ : ∃ o, o = objT k (leafT cc) := ⟨_, rfl⟩
      have HO := Lib.hid ho
      have HO3 : Hid (o.1.length = 33) := Lib.hid (by rw [ho]; exact (obj_id k HK0.out _).1)
      have HLT : Hid (∀ j, vo.ownBlock = some j → j < wr.heap.size) := Lib.hid (fun j hj => (own_lt HOO.out hj).2)
      have HROW : Hid (Row w Ar 2 (cc.map prC)) := Lib.hid (by
        have h1 := Cells.sub (sz := 2) (w := w) (A := Ar) (css := (ps.drop m).map prC) 0 4 (by rw [Nat.zero_mul, List.drop_zero]; exact HCE.out) (fun cs hcs => by obtain ⟨p, _, rfl⟩ := List.mem_map.1 hcs; rfl) (by decide)
        rw [List.drop_zero, ← List.map_take, ← hcc] at h1
        exact h1)
      clear hcc hL ho
      go_upto_region 9 with (first
        | (go_at_call 38; (with_reducible refine Calls.mono (rtree_leaf cc Ar 4 cr wr (HROW.out.ext hx) HCL.out (by omega) (by omega) HCC.out.1) ?_); rintro e w3 ⟨rfl, hx3⟩)
        | (go_at_call 37; (with_reducible refine Calls.mono (robj_calls k (leafT cc) w3 (leaf_bytes HCC.out.1 HCC.out.2) o HO.out (HT.out.ext (hx.trans hx3))) ?_); rintro e w4 ⟨rfl, hx4⟩)
        | (refine wpList_store_blk rfl 35 (.tmp 9) (.tmp 25) rfl rfl w4.heap.size (obC o).toArray rfl rfl _ _ (Blk.new w4 _ _) (by rw [List.size_toArray, obC_len HO3.out]; rfl) (by kernel_rfl) (fun v hv => obC_one o v (by simpa using hv)) ?_; intro w5 hb9 hg9; have hx5 : Ext w4 w5 := ((Ext.refl _).alloc _).grown_ hg9 (fun j e => by cases e; exact Nat.le_refl _); have hid9 : ∀ (j : Nat) (v : Value), (bv o.1)[j]? = some v → w5.cell? ((⟨w4.heap.size, 0, none⟩ : Addr).add j) = some v := (fun j v hv => by obtain ⟨y, hy, hc⟩ := (ob_cells hb9 HO3.out).1 j v hv; cases hy; exact hc); have HID9 := Lib.hid hid9; clear hid9)
        | (refine wpList_load_row_ rfl 27 (.tmp 26) rfl ⟨w4.heap.size, 0, none⟩ rfl (bv o.1) _ HID9.out Tryd.underlying27 rfl (by rw [id_info, bv_length, HO3.out]) ?_)
        | (refine wpList_build1 rfl 1 (.tmp 27) rfl (.agg (bv o.1).toArray) (.agg (kdC (ByteArray.empty, o.1)).toArray) rfl (build_kidz _ _ HO3.out) ?_)
        | (refine wpList_store_blk rfl 77 (.tmp 10) (.tmp 28) rfl rfl w5.heap.size (kdC (ByteArray.empty, o.1)).toArray rfl rfl _ _ (Blk.new w5 _ _) (by rw [List.size_toArray, kdC_len (show ((ByteArray.empty, o.1) : Kd).2.length = 33 from HO3.out)]; rfl) (by kernel_rfl) (fun v hv => kdC_one _ v (by simpa using hv)) ?_; intro w6 hb10 hg10; have hx6 : Ext w5 w6 := ((Ext.refl _).alloc _).grown_ hg10 (fun j e => by cases e; exact Nat.le_refl _)))
      obtain ⟨g9, hg9e⟩ : ∃ g, g = w4.heap.size := ⟨_, rfl⟩
      obtain ⟨g10, hg10e⟩ : ∃ g, g = w5.heap.size := ⟨_, rfl⟩
      rw [← hg9e] at hb9 ⊢
      rw [← hg10e] at hb10 ⊢
      have h910 : g9 ≠ g10 := by have := hb9.lt; omega
      have hw9 : wr.heap.size ≤ g9 := by rw [hg9e]; exact (hx3.trans hx4).size
      have hw10 : wr.heap.size ≤ g10 := by rw [hg10e]; exact ((hx3.trans hx4).trans hx5).size
      have hxr6 : Ext wr w6 := ((hx3.trans hx4).trans hx5).trans hx6
      have HB96 := Lib.hid (hb9.ext hx6)
      have HB10 := Lib.hid hb10
      clear HID9 hb9 hg9 hb10 hg10 hg9e hg10e hx3 hx4 hx5 hx6
      obtain ⟨x, hxa, r0, hr1⟩ := pr_row (ps := cc) (HROW.out.ext (hx.trans hxr6)) (i := 0) (by rw [HCL.out]; omega)
      subst hxa
      obtain ⟨key, hkey⟩ : ∃ s, s = (cc[0]'(by rw [HCL.out]; omega)).1 := ⟨_, rfl⟩
      rw [← hkey] at r0
      have r0' : w6.cell? x = some (.string key) := r0
      have HKEY : Hid (headP cc = key) := Lib.hid (by rw [hkey]; cases cc with | nil => rw [List.length_nil] at HCL; have := HCL.out; omega | cons a t => rfl)
      have hL0i : (0 : Int) < (L : Int) := by omega
      have hc10 : w6.cell? ⟨g10, 0, none⟩ = some (.string ByteArray.empty) := HB10.out.cell 0
      have hf10 : w6.frozen? ⟨g10, 0, none⟩ = false := HB10.out.frozen 0
      clear r0 hr1 hkey
      go_upto_region 11 with (fail)
      clear r0' hc10 hf10
      obtain ⟨w7, hw7⟩ : ∃ u, u = w6.setCell ⟨g10, 0, none⟩ (.string key) := ⟨_, rfl⟩
      rw [← hw7]
      have HB107 : Hid (Blk w7 g10 77 (kdC (key, o.1)).toArray) := Lib.hid (by rw [hw7]; exact HB10.out.set 0 _)
      have hxr7 : Ext wr w7 := by rw [hw7]; exact hxr6.set hw10 _
      have HB97 : Hid (Blk w7 g9 35 (obC o).toArray) := Lib.hid (by rw [hw7]; exact HB96.out.far h910 _)
      clear hw7 hxr6 HB96 HB10
      have HO7 := Lib.hid (HOO.out.ext hxr7)
      have HK7 := Lib.hid (HOK.out.ext hxr7)
      have hB7 : B ≤ w7.heap.size := Nat.le_trans hBw hxr7.size
      have hx7 := hx.trans hxr7
      go_upto_region 12 with (first
        | (refine wpList_load_blk rfl 35 (.tmp 9) rfl g9 rfl 35 _ _ HB97.out Tryd.underlying35 rfl (by rw [List.size_toArray, obC_len HO3.out]; kernel_rfl) ?_)
        | (refine wpList_lit1 rfl (T := 35) (.tmp 37) rfl (.agg (obC o).toArray) rfl (obC o).toArray (lit1_obj _ o HO3.out) ?_)
        | (at_builtin; refine wpList_append_o _ rfl (.tmp 36) (.tmp 38) rfl B vo outs rfl (HO7.out.ext ((Ext.refl _).alloc _)) (some ⟨w7.heap.size, 0, none⟩) o rfl (Cells.lit rfl (obC o) _ _) HO3.out (by omega) (Nat.le_trans hB7 ((Ext.refl _).alloc _).size) ?_; intro vo2 w8 ho8 hg8))
      obtain ⟨wl, hwl⟩ : ∃ u, u = w7.alloc (.cells (obC o).toArray 35) := ⟨_, rfl⟩
      rw [← hwl] at hg8
      have hxl : Ext w7 wl := by rw [hwl]; exact (Ext.refl _).alloc _
      have HOl : Hid (OwnO B wl vo outs) := Lib.hid (HO7.out.ext hxl)
      have HKl : Hid (OwnK B wl vk ks) := Lib.hid (HK7.out.ext hxl)
      have HO8 := Lib.hid ho8
      have HK8 : Hid (OwnK B w8 vk ks) := Lib.hid (World.ownsRow.kept HKl.out hg8 (own_own_ne2 HKl.out HOl.out (by decide)))
      have hx8 : Ext w w8 := (hx7.trans hxl).grown_ hg8 (fun j e => Nat.le_trans hwB (own_lt HOl.out e).1)
      have HB108 : Hid (Blk w8 g10 77 (kdC (key, o.1)).toArray) := Lib.hid ((HB107.out.ext hxl).grown hg8 (fun e => by have := HLT.out g10 e.symm; omega))
      have hB8 : B ≤ w8.heap.size := Nat.le_trans hB7 (Nat.le_trans hxl.size hg8.size)
      clear hwl hxl HOl HKl ho8 hg8 HB107 HB97 HO7 HK7 hB7 hx7 hxr7
      go_upto_region 13 with (first
        | (refine wpList_load_blk rfl 77 (.tmp 10) rfl g10 rfl 77 _ _ HB108.out Tryd.underlying77 rfl (by rw [List.size_toArray, kdC_len (show ((key, o.1) : Kd).2.length = 33 from HO3.out)]; kernel_rfl) ?_)
        | (refine wpList_lit1 rfl (T := 77) (.tmp 41) rfl (.agg (kdC (key, o.1)).toArray) rfl (kdC (key, o.1)).toArray (lit1_kid _ key o.1 HO3.out) ?_)
        | (at_builtin; refine wpList_append_k _ rfl (.tmp 40) (.tmp 42) rfl B vk ks rfl (HK8.out.ext ((Ext.refl _).alloc _)) (some ⟨w8.heap.size, 0, none⟩) (key, o.1) rfl (Cells.lit rfl (kdC (key, o.1)) _ _) HO3.out (by omega) (Nat.le_trans hB8 ((Ext.refl _).alloc _).size) ?_; intro vk2 w9 hk9 hg9))
      obtain ⟨wl, hwl⟩ : ∃ u, u = w8.alloc (.cells (kdC (key, o.1)).toArray 77) := ⟨_, rfl⟩
      rw [← hwl] at hg9
      have hxl : Ext w8 wl := by rw [hwl]; exact (Ext.refl _).alloc _
      have HOl : Hid (OwnO B wl vo2 (outs ++ [o])) := Lib.hid (HO8.out.ext hxl)
      have HKl : Hid (OwnK B wl vk ks) := Lib.hid (HK8.out.ext hxl)
      have HK9 := Lib.hid hk9
      have HO9 : Hid (OwnO B w9 vo2 (outs ++ [o])) := Lib.hid (World.ownsRow.kept HOl.out hg9 (own_own_ne2 HOl.out HKl.out (by decide)))
      have hx9 : Ext w w9 := (hx8.trans hxl).grown_ hg9 (fun j e => Nat.le_trans hwB (own_lt HKl.out e).1)
      have hB9 : B ≤ w9.heap.size := Nat.le_trans hB8 (Nat.le_trans hxl.size hg9.size)
      have HST2 : Hid (LeafSt k ps n (m + 4) (outs ++ [o]) (ks ++ [(key, o.1)])) := Lib.hid (leaf_step HST.out HN.out (by omega) HCD.out HO.out HKEY.out)
      clear hwl hxl HOl HKl hk9 hg9 HB108 HO8 HK8 hB8 hx8 HST HOO HOK HROW
      obtain ⟨A2, hA2⟩ : ∃ A2, A2 = (if cr = 4 then some x else (some x).map (·.add (4 * 2))) := ⟨_, rfl⟩
      have HCE2 : Hid (Cells w A2 ((ps.drop (m + 4)).map prC).flatten) := Lib.hid (by
        have h1 := (cut_cells (c := cr) (k := 4) (sz := 2) HCE.out HPN.out (by omega) (by omega)).1
        rw [flat_dropG (fun cs hcs => by obtain ⟨p, _, rfl⟩ := List.mem_map.1 hcs; rfl), ← List.map_drop, List.drop_drop, ← hA2] at h1
        exact h1)
      have HA2 := Lib.hid hA2
      clear hA2
      go_upto_region 14 with (refine wpList_slice_fromE rfl 22 65 (.tmp 44) (.tmp 45) rfl Tryd.underlying22 2 pr_info _ L cr 4 .i64 rfl rfl (by omega) (by omega) A2 HA2.out ?_)
      have hL4 : (0 : Int) < (L : Int) - 4 ∧ ¬ (L : Int) - 4 = 0 := by omega
      have hsub : ((L - 4 : Nat) : Int) = (L : Int) - 4 := by omega
      have hne4 : (((L - 4 : Nat) : Int) == 0) = false := by rw [beq_eq_false_iff_ne]; omega
      go_wp2
      go_roundg (gk - 4)
      case measure => omega
      case rel => exact ⟨m + 4, outs ++ [o], ks ++ [(key, o.1)], A2, L - 4, cr - 4, rfl, by omega, by omega, by omega, .inr (by omega), HO9, HK9, HCE2, HST2, hx9, hB9⟩
    by_cases hL0 : L = 0
    · subst hL0
      have hq0i : ¬ (0 : Int) < ((0 : Nat) : Int) := by decide
      obtain ⟨cc, hcc⟩ : ∃ x, x = (ps.drop m).take 4 := ⟨_, rfl⟩
      have hL : cc.length = 0 := by rw [hcc, List.length_take, List.length_drop, HN.out]; omega
      have HPN : Hid (((ps.drop m).map prC).flatten.length = 0 * 2) := Lib.hid (by rw [flat_len (sz := 2) _ (fun cs hcs => by obtain ⟨p, _, rfl⟩ := List.mem_map.1 hcs; rfl), List.length_map, List.length_drop, HN.out]; congr 1; omega)
      have HCC : Hid (PrsOk cc ∧ cc.length ≤ 4) := Lib.hid (by rw [hcc]; exact ⟨(HP.out.drop _).take _, by rw [List.length_take]; omega⟩)
      have HCL := Lib.hid hL
      have HCD := Lib.hid hcc
      obtain ⟨o, ho⟩ : ∃ o, o = objT k (leafT cc) := ⟨_, rfl⟩
      have HO := Lib.hid ho
      have HO3 : Hid (o.1.length = 33) := Lib.hid (by rw [ho]; exact (obj_id k HK0.out _).1)
      have HLT : Hid (∀ j, vo.ownBlock = some j → j < wr.heap.size) := Lib.hid (fun j hj => (own_lt HOO.out hj).2)
      have HROW : Hid (Row w Ar 2 (cc.map prC)) := Lib.hid (by
        have h1 := Cells.sub (sz := 2) (w := w) (A := Ar) (css := (ps.drop m).map prC) 0 4 (by rw [Nat.zero_mul, List.drop_zero]; exact HCE.out) (fun cs hcs => by obtain ⟨p, _, rfl⟩ := List.mem_map.1 hcs; rfl) (by decide)
        rw [List.drop_zero, ← List.map_take, ← hcc] at h1
        exact h1)
      clear hcc hL ho
      go_upto_region 9 with (first
        | (go_at_call 38; (with_reducible refine Calls.mono (rtree_leaf cc Ar 0 cr wr (HROW.out.ext hx) HCL.out (by omega) (by omega) HCC.out.1) ?_); rintro e w3 ⟨rfl, hx3⟩)
        | (go_at_call 37; (with_reducible refine Calls.mono (robj_calls k (leafT cc) w3 (leaf_bytes HCC.out.1 HCC.out.2) o HO.out (HT.out.ext (hx.trans hx3))) ?_); rintro e w4 ⟨rfl, hx4⟩)
        | (refine wpList_store_blk rfl 35 (.tmp 9) (.tmp 25) rfl rfl w4.heap.size (obC o).toArray rfl rfl _ _ (Blk.new w4 _ _) (by rw [List.size_toArray, obC_len HO3.out]; rfl) (by kernel_rfl) (fun v hv => obC_one o v (by simpa using hv)) ?_; intro w5 hb9 hg9; have hx5 : Ext w4 w5 := ((Ext.refl _).alloc _).grown_ hg9 (fun j e => by cases e; exact Nat.le_refl _); have hid9 : ∀ (j : Nat) (v : Value), (bv o.1)[j]? = some v → w5.cell? ((⟨w4.heap.size, 0, none⟩ : Addr).add j) = some v := (fun j v hv => by obtain ⟨y, hy, hc⟩ := (ob_cells hb9 HO3.out).1 j v hv; cases hy; exact hc); have HID9 := Lib.hid hid9; clear hid9)
        | (refine wpList_load_row_ rfl 27 (.tmp 26) rfl ⟨w4.heap.size, 0, none⟩ rfl (bv o.1) _ HID9.out Tryd.underlying27 rfl (by rw [id_info, bv_length, HO3.out]) ?_)
        | (refine wpList_build1 rfl 1 (.tmp 27) rfl (.agg (bv o.1).toArray) (.agg (kdC (ByteArray.empty, o.1)).toArray) rfl (build_kidz _ _ HO3.out) ?_)
        | (refine wpList_store_blk rfl 77 (.tmp 10) (.tmp 28) rfl rfl w5.heap.size (kdC (ByteArray.empty, o.1)).toArray rfl rfl _ _ (Blk.new w5 _ _) (by rw [List.size_toArray, kdC_len (show ((ByteArray.empty, o.1) : Kd).2.length = 33 from HO3.out)]; rfl) (by kernel_rfl) (fun v hv => kdC_one _ v (by simpa using hv)) ?_; intro w6 hb10 hg10; have hx6 : Ext w5 w6 := ((Ext.refl _).alloc _).grown_ hg10 (fun j e => by cases e; exact Nat.le_refl _)))
      obtain ⟨g9, hg9e⟩ : ∃ g, g = w4.heap.size := ⟨_, rfl⟩
      obtain ⟨g10, hg10e⟩ : ∃ g, g = w5.heap.size := ⟨_, rfl⟩
      rw [← hg9e] at hb9 ⊢
      rw [← hg10e] at hb10 ⊢
      have h910 : g9 ≠ g10 := by have := hb9.lt; omega
      have hw9 : wr.heap.size ≤ g9 := by rw [hg9e]; exact (hx3.trans hx4).size
      have hw10 : wr.heap.size ≤ g10 := by rw [hg10e]; exact ((hx3.trans hx4).trans hx5).size
      have hxr6 : Ext wr w6 := ((hx3.trans hx4).trans hx5).trans hx6
      have HB96 := Lib.hid (hb9.ext hx6)
      have HB10 := Lib.hid hb10
      clear HID9 hb9 hg9 hb10 hg10 hg9e hg10e hx3 hx4 hx5 hx6
      obtain ⟨key, hkey⟩ : ∃ s, s = ByteArray.empty := ⟨_, rfl⟩
      have HKEY : Hid (headP cc = key) := Lib.hid (by rw [hkey, List.eq_nil_of_length_eq_zero HCL.out]; rfl)
      obtain ⟨w7, hw7⟩ : ∃ u, u = w6 := ⟨_, rfl⟩
      rw [← hkey] at HB10
      rw [← hw7] at HB10 HB96 hxr6 ⊢
      have HB107 := HB10
      have hxr7 := hxr6
      have HB97 := HB96
      clear hw7 hxr6 HB96 HB10 hkey
      go_upto_region 11 with (fail)
      have HO7 := Lib.hid (HOO.out.ext hxr7)
      have HK7 := Lib.hid (HOK.out.ext hxr7)
      have hB7 : B ≤ w7.heap.size := Nat.le_trans hBw hxr7.size
      have hx7 := hx.trans hxr7
      go_upto_region 12 with (first
        | (refine wpList_load_blk rfl 35 (.tmp 9) rfl g9 rfl 35 _ _ HB97.out Tryd.underlying35 rfl (by rw [List.size_toArray, obC_len HO3.out]; kernel_rfl) ?_)
        | (refine wpList_lit1 rfl (T := 35) (.tmp 37) rfl (.agg (obC o).toArray) rfl (obC o).toArray (lit1_obj _ o HO3.out) ?_)
        | (at_builtin; refine wpList_append_o _ rfl (.tmp 36) (.tmp 38) rfl B vo outs rfl (HO7.out.ext ((Ext.refl _).alloc _)) (some ⟨w7.heap.size, 0, none⟩) o rfl (Cells.lit rfl (obC o) _ _) HO3.out (by omega) (Nat.le_trans hB7 ((Ext.refl _).alloc _).size) ?_; intro vo2 w8 ho8 hg8))
      obtain ⟨wl, hwl⟩ : ∃ u, u = w7.alloc (.cells (obC o).toArray 35) := ⟨_, rfl⟩
      rw [← hwl] at hg8
      have hxl : Ext w7 wl := by rw [hwl]; exact (Ext.refl _).alloc _
      have HOl : Hid (OwnO B wl vo outs) := Lib.hid (HO7.out.ext hxl)
      have HKl : Hid (OwnK B wl vk ks) := Lib.hid (HK7.out.ext hxl)
      have HO8 := Lib.hid ho8
      have HK8 : Hid (OwnK B w8 vk ks) := Lib.hid (World.ownsRow.kept HKl.out hg8 (own_own_ne2 HKl.out HOl.out (by decide)))
      have hx8 : Ext w w8 := (hx7.trans hxl).grown_ hg8 (fun j e => Nat.le_trans hwB (own_lt HOl.out e).1)
      have HB108 : Hid (Blk w8 g10 77 (kdC (key, o.1)).toArray) := Lib.hid ((HB107.out.ext hxl).grown hg8 (fun e => by have := HLT.out g10 e.symm; omega))
      have hB8 : B ≤ w8.heap.size := Nat.le_trans hB7 (Nat.le_trans hxl.size hg8.size)
      clear hwl hxl HOl HKl ho8 hg8 HB107 HB97 HO7 HK7 hB7 hx7 hxr7
      go_upto_region 13 with (first
        | (refine wpList_load_blk rfl 77 (.tmp 10) rfl g10 rfl 77 _ _ HB108.out Tryd.underlying77 rfl (by rw [List.size_toArray, kdC_len (show ((key, o.1) : Kd).2.length = 33 from HO3.out)]; kernel_rfl) ?_)
        | (refine wpList_lit1 rfl (T := 77) (.tmp 41) rfl (.agg (kdC (key, o.1)).toArray) rfl (kdC (key, o.1)).toArray (lit1_kid _ key o.1 HO3.out) ?_)
        | (at_builtin; refine wpList_append_k _ rfl (.tmp 40) (.tmp 42) rfl B vk ks rfl (HK8.out.ext ((Ext.refl _).alloc _)) (some ⟨w8.heap.size, 0, none⟩) (key, o.1) rfl (Cells.lit rfl (kdC (key, o.1)) _ _) HO3.out (by omega) (Nat.le_trans hB8 ((Ext.refl _).alloc _).size) ?_; intro vk2 w9 hk9 hg9))
      obtain ⟨wl, hwl⟩ : ∃ u, u = w8.alloc (.cells (kdC (key, o.1)).toArray 77) := ⟨_, rfl⟩
      rw [← hwl] at hg9
      have hxl : Ext w8 wl := by rw [hwl]; exact (Ext.refl _).alloc _
      have HOl : Hid (OwnO B wl vo2 (outs ++ [o])) := Lib.hid (HO8.out.ext hxl)
      have HKl : Hid (OwnK B wl vk ks) := Lib.hid (HK8.out.ext hxl)
      have HK9 := Lib.hid hk9
      have HO9 : Hid (OwnO B w9 vo2 (outs ++ [o])) := Lib.hid (World.ownsRow.kept HOl.out hg9 (own_own_ne2 HOl.out HKl.out (by decide)))
      have hx9 : Ext w w9 := (hx8.trans hxl).grown_ hg9 (fun j e => Nat.le_trans hwB (own_lt HKl.out e).1)
      have hB9 : B ≤ w9.heap.size := Nat.le_trans hB8 (Nat.le_trans hxl.size hg9.size)
      have HST2 : Hid (LeafSt k ps n (m + 4) (outs ++ [o]) (ks ++ [(key, o.1)])) := Lib.hid (leaf_step HST.out HN.out (by omega) HCD.out HO.out HKEY.out)
      clear hwl hxl HOl HKl hk9 hg9 HB108 HO8 HK8 hB8 hx8 HST HOO HOK HROW
      obtain ⟨A2, hA2⟩ : ∃ A2, A2 = (if cr = 0 then Ar else (Ar).map (·.add (0 * 2))) := ⟨_, rfl⟩
      have HCE2 : Hid (Cells w A2 ((ps.drop (m + 0)).map prC).flatten) := Lib.hid (by
        have h1 := (cut_cells (c := cr) (k := 0) (sz := 2) HCE.out HPN.out (by omega) (by omega)).1
        rw [flat_dropG (fun cs hcs => by obtain ⟨p, _, rfl⟩ := List.mem_map.1 hcs; rfl), ← List.map_drop, List.drop_drop, ← hA2] at h1
        exact h1)
      have HA2 := Lib.hid hA2
      clear hA2
      go_upto_region 14 with (refine wpList_slice_fromE rfl 22 65 (.tmp 44) (.tmp 45) rfl Tryd.underlying22 2 pr_info _ 0 cr 0 .i64 rfl rfl (by omega) (by omega) A2 HA2.out ?_)
      have HOO := HO9
      have HOK := HK9
      have HST := HST2
      have hx := hx9
      have hBw := hB9
      obtain ⟨hol, hkl⟩ := leafSt_len HST2.out HN.out hn256
      clear HO9 HK9 HST2 hx9 hB9 HCE2 HCE HPN HCC HCL HCD HO HO3 HLT HKEY
      generalize outs ++ [o] = outs at HOO HOK HST hol
      generalize ks ++ [(key, o.1)] = ks at HOK HST hkl
      obtain ⟨ho1, hk1⟩ : outs = leafO k ps ∧ ks = leafR k ps := by
        rcases HST.out with ⟨h, _⟩ | ⟨_, h⟩
        · omega
        · exact h
      have HBT : Hid (buildT k ps = (outs ++ (upAll k ks).1, (upAll k ks).2)) := Lib.hid (by rw [ho1, hk1]; rfl)
      have HRO : Hid (RowOk k ks) := Lib.hid (by rw [hk1]; exact leafR_ok k HK0.out _ ps (Nat.le_refl _) HP.out)
      have hks0 : ks.length ≠ 0 := by
        rw [hk1]
        unfold leafR
        rw [List.length_map, chunks_len _ ps (Nat.le_refl _)]
        omega
      have hks1 : ks.length = 1 := by
        rw [hk1]
        unfold leafR
        rw [List.length_map, chunks_len _ ps (Nat.le_refl _), HN.out]
        omega
      have hsum : outs.length + 3 * ks.length ≤ 300 := by omega
      clear ho1 hk1 HST
      go_upto_region 15 with (fail)
      obtain ⟨A0, c0, rfl, hc0, _, hcl0⟩ := HOK.out.form
      have hk1n : ks.length = 1 := by
        have h0 := hks1
        omega
      rw [hk1n]
      obtain ⟨W, hW⟩ : ∃ u, u = w9 := ⟨_, rfl⟩
      go_loopg [6, 5] 1 (fun gk vk vo wr => vk = .slice A0 1 c0 ∧ vo = vo2 ∧ wr = w9)
      case atStart => exact ⟨rfl, rfl, rfl⟩
      case round =>
        obtain ⟨rfl, rfl, rfl⟩ := hrel
        have HFIN : Hid ((buildT k ps).1 = outs) := Lib.hid (by
          rw [HBT.out, upAll_one k (show ¬ 1 < ks.length by omega)]
          exact List.append_nil _)
        go_wp2
        go_ret
        exact RBuildP.of HOO.out HBE.out HFIN.out hx
    · have h4i : ¬ (4 : Int) < (L : Int) := by omega
      have hq0i : (0 : Int) < (L : Int) := by omega
      obtain ⟨cc, hcc⟩ : ∃ x, x = (ps.drop m).take 4 := ⟨_, rfl⟩
      have hL : cc.length = L := by rw [hcc, List.length_take, List.length_drop, HN.out]; omega
      have HPN : Hid (((ps.drop m).map prC).flatten.length = L * 2) := Lib.hid (by rw [flat_len (sz := 2) _ (fun cs hcs => by obtain ⟨p, _, rfl⟩ := List.mem_map.1 hcs; rfl), List.length_map, List.length_drop, HN.out]; congr 1; omega)
      have HCC : Hid (PrsOk cc ∧ cc.length ≤ 4) := Lib.hid (by rw [hcc]; exact ⟨(HP.out.drop _).take _, by rw [List.length_take]; omega⟩)
      have HCL := Lib.hid hL
      have HCD := Lib.hid hcc
      obtain ⟨o, ho⟩ : ∃ o, o = objT k (leafT cc) := ⟨_, rfl⟩
      have HO := Lib.hid ho
      have HO3 : Hid (o.1.length = 33) := Lib.hid (by rw [ho]; exact (obj_id k HK0.out _).1)
      have HLT : Hid (∀ j, vo.ownBlock = some j → j < wr.heap.size) := Lib.hid (fun j hj => (own_lt HOO.out hj).2)
      have HROW : Hid (Row w Ar 2 (cc.map prC)) := Lib.hid (by
        have h1 := Cells.sub (sz := 2) (w := w) (A := Ar) (css := (ps.drop m).map prC) 0 4 (by rw [Nat.zero_mul, List.drop_zero]; exact HCE.out) (fun cs hcs => by obtain ⟨p, _, rfl⟩ := List.mem_map.1 hcs; rfl) (by decide)
        rw [List.drop_zero, ← List.map_take, ← hcc] at h1
        exact h1)
      clear hcc hL ho
      go_upto_region 9 with (first
        | (go_at_call 38; (with_reducible refine Calls.mono (rtree_leaf cc Ar L cr wr (HROW.out.ext hx) HCL.out (by omega) (by omega) HCC.out.1) ?_); rintro e w3 ⟨rfl, hx3⟩)
        | (go_at_call 37; (with_reducible refine Calls.mono (robj_calls k (leafT cc) w3 (leaf_bytes HCC.out.1 HCC.out.2) o HO.out (HT.out.ext (hx.trans hx3))) ?_); rintro e w4 ⟨rfl, hx4⟩)
        | (refine wpList_store_blk rfl 35 (.tmp 9) (.tmp 25) rfl rfl w4.heap.size (obC o).toArray rfl rfl _ _ (Blk.new w4 _ _) (by rw [List.size_toArray, obC_len HO3.out]; rfl) (by kernel_rfl) (fun v hv => obC_one o v (by simpa using hv)) ?_; intro w5 hb9 hg9; have hx5 : Ext w4 w5 := ((Ext.refl _).alloc _).grown_ hg9 (fun j e => by cases e; exact Nat.le_refl _); have hid9 : ∀ (j : Nat) (v : Value), (bv o.1)[j]? = some v → w5.cell? ((⟨w4.heap.size, 0, none⟩ : Addr).add j) = some v := (fun j v hv => by obtain ⟨y, hy, hc⟩ := (ob_cells hb9 HO3.out).1 j v hv; cases hy; exact hc); have HID9 := Lib.hid hid9; clear hid9)
        | (refine wpList_load_row_ rfl 27 (.tmp 26) rfl ⟨w4.heap.size, 0, none⟩ rfl (bv o.1) _ HID9.out Tryd.underlying27 rfl (by rw [id_info, bv_length, HO3.out]) ?_)
        | (refine wpList_build1 rfl 1 (.tmp 27) rfl (.agg (bv o.1).toArray) (.agg (kdC (ByteArray.empty, o.1)).toArray) rfl (build_kidz _ _ HO3.out) ?_)
        | (refine wpList_store_blk rfl 77 (.tmp 10) (.tmp 28) rfl rfl w5.heap.size (kdC (ByteArray.empty, o.1)).toArray rfl rfl _ _ (Blk.new w5 _ _) (by rw [List.size_toArray, kdC_len (show ((ByteArray.empty, o.1) : Kd).2.length = 33 from HO3.out)]; rfl) (by kernel_rfl) (fun v hv => kdC_one _ v (by simpa using hv)) ?_; intro w6 hb10 hg10; have hx6 : Ext w5 w6 := ((Ext.refl _).alloc _).grown_ hg10 (fun j e => by cases e; exact Nat.le_refl _)))
      obtain ⟨g9, hg9e⟩ : ∃ g, g = w4.heap.size := ⟨_, rfl⟩
      obtain ⟨g10, hg10e⟩ : ∃ g, g = w5.heap.size := ⟨_, rfl⟩
      rw [← hg9e] at hb9 ⊢
      rw [← hg10e] at hb10 ⊢
      have h910 : g9 ≠ g10 := by have := hb9.lt; omega
      have hw9 : wr.heap.size ≤ g9 := by rw [hg9e]; exact (hx3.trans hx4).size
      have hw10 : wr.heap.size ≤ g10 := by rw [hg10e]; exact ((hx3.trans hx4).trans hx5).size
      have hxr6 : Ext wr w6 := ((hx3.trans hx4).trans hx5).trans hx6
      have HB96 := Lib.hid (hb9.ext hx6)
      have HB10 := Lib.hid hb10
      clear HID9 hb9 hg9 hb10 hg10 hg9e hg10e hx3 hx4 hx5 hx6
      obtain ⟨x, hxa, r0, hr1⟩ := pr_row (ps := cc) (HROW.out.ext (hx.trans hxr6)) (i := 0) (by rw [HCL.out]; omega)
      subst hxa
      obtain ⟨key, hkey⟩ : ∃ s, s = (cc[0]'(by rw [HCL.out]; omega)).1 := ⟨_, rfl⟩
      rw [← hkey] at r0
      have r0' : w6.cell? x = some (.string key) := r0
      have HKEY : Hid (headP cc = key) := Lib.hid (by rw [hkey]; cases cc with | nil => rw [List.length_nil] at HCL; have := HCL.out; omega | cons a t => rfl)
      have hL0i : (0 : Int) < (L : Int) := by omega
      have hc10 : w6.cell? ⟨g10, 0, none⟩ = some (.string ByteArray.empty) := HB10.out.cell 0
      have hf10 : w6.frozen? ⟨g10, 0, none⟩ = false := HB10.out.frozen 0
      clear r0 hr1 hkey
      go_upto_region 11 with (fail)
      clear r0' hc10 hf10
      obtain ⟨w7, hw7⟩ : ∃ u, u = w6.setCell ⟨g10, 0, none⟩ (.string key) := ⟨_, rfl⟩
      rw [← hw7]
      have HB107 : Hid (Blk w7 g10 77 (kdC (key, o.1)).toArray) := Lib.hid (by rw [hw7]; exact HB10.out.set 0 _)
      have hxr7 : Ext wr w7 := by rw [hw7]; exact hxr6.set hw10 _
      have HB97 : Hid (Blk w7 g9 35 (obC o).toArray) := Lib.hid (by rw [hw7]; exact HB96.out.far h910 _)
      clear hw7 hxr6 HB96 HB10
      have HO7 := Lib.hid (HOO.out.ext hxr7)
      have HK7 := Lib.hid (HOK.out.ext hxr7)
      have hB7 : B ≤ w7.heap.size := Nat.le_trans hBw hxr7.size
      have hx7 := hx.trans hxr7
      go_upto_region 12 with (first
        | (refine wpList_load_blk rfl 35 (.tmp 9) rfl g9 rfl 35 _ _ HB97.out Tryd.underlying35 rfl (by rw [List.size_toArray, obC_len HO3.out]; kernel_rfl) ?_)
        | (refine wpList_lit1 rfl (T := 35) (.tmp 37) rfl (.agg (obC o).toArray) rfl (obC o).toArray (lit1_obj _ o HO3.out) ?_)
        | (at_builtin; refine wpList_append_o _ rfl (.tmp 36) (.tmp 38) rfl B vo outs rfl (HO7.out.ext ((Ext.refl _).alloc _)) (some ⟨w7.heap.size, 0, none⟩) o rfl (Cells.lit rfl (obC o) _ _) HO3.out (by omega) (Nat.le_trans hB7 ((Ext.refl _).alloc _).size) ?_; intro vo2 w8 ho8 hg8))
      obtain ⟨wl, hwl⟩ : ∃ u, u = w7.alloc (.cells (obC o).toArray 35) := ⟨_, rfl⟩
      rw [← hwl] at hg8
      have hxl : Ext w7 wl := by rw [hwl]; exact (Ext.refl _).alloc _
      have HOl : Hid (OwnO B wl vo outs) := Lib.hid (HO7.out.ext hxl)
      have HKl : Hid (OwnK B wl vk ks) := Lib.hid (HK7.out.ext hxl)
      have HO8 := Lib.hid ho8
      have HK8 : Hid (OwnK B w8 vk ks) := Lib.hid (World.ownsRow.kept HKl.out hg8 (own_own_ne2 HKl.out HOl.out (by decide)))
      have hx8 : Ext w w8 := (hx7.trans hxl).grown_ hg8 (fun j e => Nat.le_trans hwB (own_lt HOl.out e).1)
      have HB108 : Hid (Blk w8 g10 77 (kdC (key, o.1)).toArray) := Lib.hid ((HB107.out.ext hxl).grown hg8 (fun e => by have := HLT.out g10 e.symm; omega))
      have hB8 : B ≤ w8.heap.size := Nat.le_trans hB7 (Nat.le_trans hxl.size hg8.size)
      clear hwl hxl HOl HKl ho8 hg8 HB107 HB97 HO7 HK7 hB7 hx7 hxr7
      go_upto_region 13 with (first
        | (refine wpList_load_blk rfl 77 (.tmp 10) rfl g10 rfl 77 _ _ HB108.out Tryd.underlying77 rfl (by rw [List.size_toArray, kdC_len (show ((key, o.1) : Kd).2.length = 33 from HO3.out)]; kernel_rfl) ?_)
        | (refine wpList_lit1 rfl (T := 77) (.tmp 41) rfl (.agg (kdC (key, o.1)).toArray) rfl (kdC (key, o.1)).toArray (lit1_kid _ key o.1 HO3.out) ?_)
        | (at_builtin; refine wpList_append_k _ rfl (.tmp 40) (.tmp 42) rfl B vk ks rfl (HK8.out.ext ((Ext.refl _).alloc _)) (some ⟨w8.heap.size, 0, none⟩) (key, o.1) rfl (Cells.lit rfl (kdC (key, o.1)) _ _) HO3.out (by omega) (Nat.le_trans hB8 ((Ext.refl _).alloc _).size) ?_; intro vk2 w9 hk9 hg9))
      obtain ⟨wl, hwl⟩ : ∃ u, u = w8.alloc (.cells (kdC (key, o.1)).toArray 77) := ⟨_, rfl⟩
      rw [← hwl] at hg9
      have hxl : Ext w8 wl := by rw [hwl]; exact (Ext.refl _).alloc _
      have HOl : Hid (OwnO B wl vo2 (outs ++ [o])) := Lib.hid (HO8.out.ext hxl)
      have HKl : Hid (OwnK B wl vk ks) := Lib.hid (HK8.out.ext hxl)
      have HK9 := Lib.hid hk9
      have HO9 : Hid (OwnO B w9 vo2 (outs ++ [o])) := Lib.hid (World.ownsRow.kept HOl.out hg9 (own_own_ne2 HOl.out HKl.out (by decide)))
      have hx9 : Ext w w9 := (hx8.trans hxl).grown_ hg9 (fun j e => Nat.le_trans hwB (own_lt HKl.out e).1)
      have hB9 : B ≤ w9.heap.size := Nat.le_trans hB8 (Nat.le_trans hxl.size hg9.size)
      have HST2 : Hid (LeafSt k ps n (m + 4) (outs ++ [o]) (ks ++ [(key, o.1)])) := Lib.hid (leaf_step HST.out HN.out (by omega) HCD.out HO.out HKEY.out)
      clear hwl hxl HOl HKl hk9 hg9 HB108 HO8 HK8 hB8 hx8 HST HOO HOK HROW
      obtain ⟨A2, hA2⟩ : ∃ A2, A2 = (if cr = L then some x else (some x).map (·.add (L * 2))) := ⟨_, rfl⟩
      have HCE2 : Hid (Cells w A2 ((ps.drop (m + L)).map prC).flatten) := Lib.hid (by
        have h1 := (cut_cells (c := cr) (k := L) (sz := 2) HCE.out HPN.out (by omega) (by omega)).1
        rw [flat_dropG (fun cs hcs => by obtain ⟨p, _, rfl⟩ := List.mem_map.1 hcs; rfl), ← List.map_drop, List.drop_drop, ← hA2] at h1
        exact h1)
      have HA2 := Lib.hid hA2
      clear hA2
      go_upto_region 14 with (refine wpList_slice_fromE rfl 22 65 (.tmp 44) (.tmp 45) rfl Tryd.underlying22 2 pr_info _ L cr L .i64 rfl rfl (by omega) (by omega) A2 HA2.out ?_)
      have HOO := HO9
      have HOK := HK9
      have HST := HST2
      have hx := hx9
      have hBw := hB9
      obtain ⟨hol, hkl⟩ := leafSt_len HST2.out HN.out hn256
      clear HO9 HK9 HST2 hx9 hB9 HCE2 HCE HPN HCC HCL HCD HO HO3 HLT HKEY
      generalize outs ++ [o] = outs at HOO HOK HST hol
      generalize ks ++ [(key, o.1)] = ks at HOK HST hkl
      obtain ⟨ho1, hk1⟩ : outs = leafO k ps ∧ ks = leafR k ps := by
        rcases HST.out with ⟨h, _⟩ | ⟨_, h⟩
        · omega
        · exact h
      have HBT : Hid (buildT k ps = (outs ++ (upAll k ks).1, (upAll k ks).2)) := Lib.hid (by rw [ho1, hk1]; rfl)
      have HRO : Hid (RowOk k ks) := Lib.hid (by rw [hk1]; exact leafR_ok k HK0.out _ ps (Nat.le_refl _) HP.out)
      have hks0 : ks.length ≠ 0 := by
        rw [hk1]
        unfold leafR
        rw [List.length_map, chunks_len _ ps (Nat.le_refl _)]
        omega
      have hsum : outs.length + 3 * ks.length ≤ 300 := by omega
      clear ho1 hk1 HST
      go_upto_region 15 with (fail)
      go_loopg [6, 5] 70 (fun gk vk vo wr => ∃ (outs : List Ent2) (ks : List Kd), ks.length ≤ gk ∧ Hid (OwnO B wr vo outs) ∧ Hid (OwnK B wr vk ks) ∧ Hid (RowOk k ks) ∧ Hid (buildT k ps = (outs ++ (upAll k ks).1, (upAll k ks).2)) ∧ ks.length ≠ 0 ∧ ks.length ≤ 65 ∧ outs.length + 3 * ks.length ≤ 300 ∧ Ext w wr ∧ B ≤ wr.heap.size)
      case atStart => exact ⟨outs, ks, by omega, HOO, HOK, HRO, HBT, hks0, by omega, hsum, hx, hBw⟩
      case round =>
        clear HOO HOK HRO HBT hks0 hkl hol hsum hx hBw
        obtain ⟨outs, ks, hgk, HOO, HOK, HRO, HBT, hks0, hk65, hsum, hx, hBw⟩ := hrel
        obtain ⟨A0, c0, rfl, hc0, _, hcl0⟩ := HOK.out.form
        have HC0 := Lib.hid hcl0
        obtain ⟨vo, hvo⟩ : ∃ v, v = u5 := ⟨_, rfl⟩
        subst hvo
        obtain ⟨nk, hnk⟩ : ∃ x, ks.length = x := ⟨_, rfl⟩
        rw [hnk] at hgk hks0 hk65 hsum hc0 ⊢
        have HNK := Lib.hid hnk
        clear hcl0 hnk
        by_cases h1 : 1 < nk
        · have h1i : (1 : Int) < (nk : Int) := by omega
          obtain ⟨go, hgo⟩ : ∃ g, g = gk := ⟨_, rfl⟩
          subst hgo
          go_upto_region 17 with (fail)
          obtain ⟨B2, hB2e⟩ : ∃ b, b = wr.heap.size := ⟨_, rfl⟩
          have hBB2 : B ≤ B2 := by omega
          have hwB2 : w.heap.size ≤ B2 := by omega
          have HLT0 : Hid (∀ x, A0 = some x → x.block < B2) := Lib.hid (fun x hx2 => by
            obtain ⟨y, e, hcc⟩ := HC0.out 0 (.string (headK ks)) (by
              cases ks with
              | nil => have := HNK.out; simp at this; omega
              | cons a t => rfl)
            rw [hx2] at e
            cases e
            rw [hB2e]
            exact cell_lt hcc)
          have hB2w : B2 ≤ wr.heap.size := by omega
          have HSM0 : Hid (Same A0 A0) := Lib.hid (fun x hx => ⟨x, hx, rfl⟩)
          have HUL : Hid ((upRow k ks).1.length ≤ 65 ∧ (upRow k ks).2.length ≤ 65) := Lib.hid (by obtain ⟨hl1, hl2⟩ := upRow_len k _ ks (Nat.le_refl _) (by rw [HNK.out]; omega); rw [HNK.out] at hl1 hl2; omega)
          clear hB2e
          go_loopg [6, 5, 11] nk (fun gk vr vo vu wr => ∃ (d : Nat) (outs2 : List Ent2) (up : List Kd) (Ar : Option Addr) (m cr : Nat), vr = .slice Ar m cr ∧ d + m = nk ∧ m ≤ gk ∧ m ≤ cr ∧ m ≠ 1 ∧ Hid (OwnO B wr vo outs2) ∧ Hid (OwnK B2 wr vu up) ∧ Hid (OwnK B wr (.slice A0 ks.length c0) ks) ∧ Hid (Same A0 Ar) ∧ Hid (Cells wr Ar ((ks.drop d).map kdC).flatten) ∧ Hid (outs2 ++ (upRow k (ks.drop d)).1 = outs ++ (upRow k ks).1 ∧ up ++ (upRow k (ks.drop d)).2 = (upRow k ks).2) ∧ outs2.length + up.length ≤ 700 ∧ Ext w wr ∧ B2 ≤ wr.heap.size)
          case atStart => exact ⟨0, outs, [], A0, nk, c0, rfl, by omega, Nat.le_refl _, hc0, by omega, HOO, Lib.hid (OwnK.nil _ _), HOK, HSM0, HC0, Lib.hid ⟨rfl, rfl⟩, by show outs.length + 0 ≤ 700; omega, hx, hB2w⟩
          case round =>
            clear HC0 hx hB2w HSM0 HOO HOK
            obtain ⟨d, outs2, up, Ar, m, cr, rfl, hdm, hmg, hmc, hm1, HOO, HOU, HOK, HSM, HCE, HST, hou, hx, hBw2⟩ := hrel
            obtain ⟨vo, hvo⟩ : ∃ v, v = u5 := ⟨_, rfl⟩
            subst hvo
            obtain ⟨vu, hvu⟩ : ∃ v, v = u11 := ⟨_, rfl⟩
            subst hvu
            have hul : outs2.length ≤ 700 ∧ up.length ≤ 700 := by omega
            by_cases hm0 : m = 0
            · subst hm0
              have hdn : d = nk := by omega
              obtain ⟨hs1, hs2⟩ := HST.out
              have hdr : ks.drop d = [] := List.drop_eq_nil_of_le (by rw [HNK.out]; omega)
              rw [hdr, upRow_nil, List.append_nil] at hs1 hs2
              have HUP := Lib.hid hs2
              have HBT2 : Hid (buildT k ps = (outs2 ++ (upAll k up).1, (upAll k up).2)) := Lib.hid (by
                rw [HBT.out, upAll_more k (show 1 < ks.length by rw [HNK.out]; exact h1), hs1, hs2, List.append_assoc])
              have HRO2 : Hid (RowOk k up) := Lib.hid (by rw [hs2]; exact upRow_ok k HK0.out _ ks (Nat.le_refl _) HRO.out)
              obtain ⟨hl1, hl2⟩ := upRow_len k _ ks (Nat.le_refl _) (by rw [HNK.out]; omega)
              have hul1 : up.length = (nk + 2) / 3 := by rw [hs2, hl1, HNK.out]
              have hol1 : outs2.length = outs.length + (nk + 2) / 3 := by rw [hs1, List.length_append, hl2, HNK.out]
              have HOU2 := Lib.hid (own_lower HOU.out hBB2 : OwnK B wr vu up)
              clear hs1 hs2 hdr hl1 hl2
              go_wp2
              go_roundg (go - 1)
              case measure => omega
              case rel => exact ⟨outs2, up, by omega, HOO, HOU2, HRO2, HBT2, by omega, by omega, by omega, hx, by omega⟩
            · have hm2 : 2 ≤ m := by omega
              have hm0i : (0 : Int) < (m : Int) := by omega
              have HKM : Hid ((ks.drop d).length = m) := Lib.hid (by rw [List.length_drop, HNK.out]; omega)
              have H33 : Hid (∀ x ∈ ks.drop d, x.2.length = 33) := Lib.hid (fun x hx => ((HRO.out.drop d).each x hx).2.1)
              have HNEO : Hid (∀ x, Ar = some x → some x.block ≠ vo.ownBlock) := Lib.hid (fun x hx2 e => by
                obtain ⟨y, hy, hyx⟩ := HSM.out x hx2
                have h3 := own_own_ne2 HOK.out HOO.out (by decide)
                rcases HOK.out.2 with ⟨e0, hz⟩ | ⟨g1, cap, cur, e0, _⟩
                · have := HNK.out; omega
                · have e4 : A0 = some ⟨g1, 0, none⟩ := by injection e0
                  rw [e0] at h3
                  rw [e4] at hy
                  cases hy
                  rcases h3 with h3 | h3
                  · cases h3
                  · exact h3 (by rw [← e, hyx]; rfl))
              have HNEU : Hid (∀ x, Ar = some x → some x.block ≠ vu.ownBlock) := Lib.hid (fun x hx2 e => by
                obtain ⟨y, hy, hyx⟩ := HSM.out x hx2
                have h4 := HLT0.out y hy
                have h5 := (own_lt HOU.out e.symm).1
                omega)
              have HKLT : Hid (∀ j, (Value.slice A0 ks.length c0).ownBlock = some j → j < B2) := Lib.hid (fun j hj => by
                rcases HOK.out.2 with ⟨e0, hz⟩ | ⟨g1, cap, cur, e0, _⟩
                · have := HNK.out; omega
                · have e4 : A0 = some ⟨g1, 0, none⟩ := by injection e0
                  have h4 := HLT0.out _ e4
                  rw [e4] at hj
                  cases hj
                  exact h4)
              have HLTO : Hid (∀ j, vo.ownBlock = some j → j < wr.heap.size) := Lib.hid (fun j hj => (own_lt HOO.out hj).2)
              by_cases hv4 : m = 4
              · have hg4 : ((m : Int) == 4) = true := by rw [hv4]; rfl
                have hq : grp m = 2 := by unfold grp; split <;> omega
                have hqm : 2 ≤ m := by omega
                have hqr : m - 2 ≠ 1 := by omega
                obtain ⟨cc, hcc⟩ : ∃ x, x = (ks.drop d).take 2 := ⟨_, rfl⟩
                have hcl : cc.length = 2 := by rw [hcc, List.length_take, HKM.out]; omega
                have HCC := Lib.hid hcc
                have HCL := Lib.hid hcl
                have HRC : Hid (RowOk k cc) := Lib.hid (by rw [hcc]; exact (HRO.out.drop _).take _)
                obtain ⟨o, ho⟩ : ∃ o, o = objT k (upT cc) := ⟨_, rfl⟩
                have HO := Lib.hid ho
                have HO3 : Hid (o.1.length = 33) := Lib.hid (by rw [ho]; exact (obj_id k HK0.out _).1)
                obtain ⟨key, hkey⟩ : ∃ s, headK (ks.drop d) = s := ⟨_, rfl⟩
                have HKEY := Lib.hid hkey
                have HSTEP : Hid (upRow k (ks.drop d) = (o :: (upRow k (ks.drop (d + 2))).1, (key, o.1) :: (upRow k (ks.drop (d + 2))).2)) := Lib.hid (by
                  rw [upRow_step k (show (ks.drop d).length ≠ 0 by rw [HKM.out]; omega), HKM.out, hq, ← hcc, ← ho, hkey, List.drop_drop])
                have HROW : Hid (Row wr Ar 34 (cc.map kdC)) := Lib.hid (by
                  have h1 := Cells.sub (sz := 34) (w := wr) (A := Ar) (css := (ks.drop d).map kdC) 0 2 (by rw [Nat.zero_mul, List.drop_zero]; exact HCE.out) (fun cs hcs => by obtain ⟨x, hx, rfl⟩ := List.mem_map.1 hcs; exact kdC_len (H33.out x hx)) (by decide)
                  rw [List.drop_zero, ← List.map_take, ← hcc] at h1
                  exact h1)
                have hqmi : (2 : Int) ≤ (m : Int) := by omega
                have hqci : (2 : Int) ≤ (cr : Int) := by omega
                clear hcc hcl ho hkey hq hv4
                go_upto_region 22 with (first
                  | (go_at_call 38; (with_reducible refine Calls.mono (rtree_up k cc Ar 2 cr wr HROW.out HCL.out (by omega) (by omega) (by omega) HRC.out HK0.out) ?_); rintro e w3 ⟨rfl, hx3⟩)
                  | (go_at_call 37; (with_reducible refine Calls.mono (robj_calls k (upT cc) w3 (up_bytes HRC.out (by rw [HCL.out]; omega) (by rw [HCL.out]; omega)) o HO.out (HT.out.ext (hx.trans hx3))) ?_); rintro e w4 ⟨rfl, hx4⟩)
                  | (refine wpList_store_blk rfl 35 (.tmp 13) (.tmp 70) rfl rfl w4.heap.size (obC o).toArray rfl rfl _ _ (Blk.new w4 _ _) (by rw [List.size_toArray, obC_len HO3.out]; rfl) (by kernel_rfl) (fun v hv => obC_one o v (by simpa using hv)) ?_; intro w5 hb13 hg13; have hx5 : Ext w4 w5 := ((Ext.refl _).alloc _).grown_ hg13 (fun j e => by cases e; exact Nat.le_refl _)))
                obtain ⟨g13, hg13e⟩ : ∃ g, g = w4.heap.size := ⟨_, rfl⟩
                rw [← hg13e] at hb13 ⊢
                have hw13 : wr.heap.size ≤ g13 := by rw [hg13e]; exact (hx3.trans hx4).size
                have hxr5 : Ext wr w5 := (hx3.trans hx4).trans hx5
                have HB13 := Lib.hid hb13
                have HO5 := Lib.hid (HOO.out.ext hxr5)
                have HU5 := Lib.hid (HOU.out.ext hxr5)
                have HK5 := Lib.hid (HOK.out.ext hxr5)
                have HC5 := Lib.hid (HCE.out.ext hxr5)
                have hx5w := hx.trans hxr5
                have hB5 : B2 ≤ w5.heap.size := Nat.le_trans hBw2 hxr5.size
                have hB5' : B ≤ w5.heap.size := Nat.le_trans hBB2 hB5
                clear hb13 hg13 hg13e hx3 hx4 hx5
                go_upto_region 23 with (first
                  | (refine wpList_load_blk rfl 35 (.tmp 13) rfl g13 rfl 35 _ _ HB13.out Tryd.underlying35 rfl (by rw [List.size_toArray, obC_len HO3.out]; kernel_rfl) ?_)
                  | (refine wpList_lit1 rfl (T := 35) (.tmp 72) rfl (.agg (obC o).toArray) rfl (obC o).toArray (lit1_obj _ o HO3.out) ?_)
                  | (at_builtin; refine wpList_append_o _ rfl (.tmp 71) (.tmp 73) rfl B vo outs2 rfl (HO5.out.ext ((Ext.refl _).alloc _)) (some ⟨w5.heap.size, 0, none⟩) o rfl (Cells.lit rfl (obC o) _ _) HO3.out (by omega) (Nat.le_trans hB5' ((Ext.refl _).alloc _).size) ?_; intro vo3 w8 ho8 hg8))
                obtain ⟨wl, hwl⟩ : ∃ u, u = w5.alloc (.cells (obC o).toArray 35) := ⟨_, rfl⟩
                rw [← hwl] at hg8
                have hxl : Ext w5 wl := by rw [hwl]; exact (Ext.refl _).alloc _
                have HOl : Hid (OwnO B wl vo outs2) := Lib.hid (HO5.out.ext hxl)
                have HO8 := Lib.hid ho8
                have HU8 : Hid (OwnK B2 w8 vu up) := Lib.hid (World.ownsRow.kept (HU5.out.ext hxl) hg8 (own_own_ne2 (HU5.out.ext hxl) HOl.out (by decide)))
                have HK8 : Hid (OwnK B w8 (.slice A0 ks.length c0) ks) := Lib.hid (World.ownsRow.kept (HK5.out.ext hxl) hg8 (own_own_ne2 (HK5.out.ext hxl) HOl.out (by decide)))
                have hx8 : Ext w w8 := (hx5w.trans hxl).grown_ hg8 (fun j e => Nat.le_trans hwB (own_lt HOl.out e).1)
                have HC8 : Hid (Cells w8 Ar ((ks.drop d).map kdC).flatten) := Lib.hid ((HC5.out.ext hxl).grown hg8 (fun x hx => HNEO.out x hx))
                have HB138 : Hid (Blk w8 g13 35 (obC o).toArray) := Lib.hid ((HB13.out.ext hxl).grown hg8 (fun e => by have := HLTO.out g13 e.symm; omega))
                have hB8 : B2 ≤ w8.heap.size := Nat.le_trans hB5 (Nat.le_trans hxl.size hg8.size)
                have hB8' : B ≤ w8.heap.size := Nat.le_trans hBB2 hB8
                obtain ⟨X, hX⟩ : ∃ X, X = ((ks.drop d).map kdC).flatten := ⟨_, rfl⟩
                rw [← hX] at HC8
                have HXK : Hid (X[0]? = some (.string key)) := Lib.hid (by
                  rw [hX]
                  have h1 := HKEY.out
                  have h2 := HKM.out
                  cases hk : ks.drop d with
                  | nil => rw [hk, List.length_nil] at h2; omega
                  | cons a t => rw [hk] at h1; rw [← h1]; rfl)
                have HXL : Hid (X.length = m * 34) := Lib.hid (by
                  rw [hX, flatten_len34 (fun cs hcs => by obtain ⟨x, hx, rfl⟩ := List.mem_map.1 hcs; exact kdC_len (H33.out x hx)), List.length_map, HKM.out])
                have HXD : Hid (X.drop (2 * 34) = ((ks.drop (d + 2)).map kdC).flatten) := Lib.hid (by
                  rw [hX, flatten_drop34 (fun cs hcs => by obtain ⟨x, hx, rfl⟩ := List.mem_map.1 hcs; exact kdC_len (H33.out x hx)) 2, ← List.map_drop, List.drop_drop])
                obtain ⟨x0, hx0A, hx0c⟩ := HC8.out 0 _ HXK.out
                subst hx0A
                obtain ⟨A2, hA2⟩ : ∃ A2, A2 = (if cr = 2 then some x0 else (some x0).map (·.add (2 * 34))) := ⟨_, rfl⟩
                have HA2 := Lib.hid hA2
                clear hwl hxl HOl ho8 hg8 hX hx0c hA2 HO5 HU5 HK5 HC5 HB13 hx5w hB5 hB5' hxr5 HROW HOO HOU HOK HCE
                refine wp_region_opsC (JInv [75, 76, 77, 78, 79, 80, 81, 82, 83, 84, 11] _ [(0, 75, vu), (1, 76, .slice (some x0) m cr), (2, 77, .pointer (some x0)), (3, 78, .pointer (some x0)), (4, 79, .string key), (5, 80, .pointer (some ⟨g13, 0, none⟩)), (6, 81, .agg (bv o.1).toArray), (7, 82, .agg (kdC (key, o.1)).toArray)] [83, 84, 11] (fun f L u => JT w B B2 g13 o (outs2 ++ [o]) vo3 (key, o.1) up vu false false (f 8) (f 9) undef undef (L.getD 0 undef) (L.getD 1 undef) u ∧ Cells u (some x0) X ∧ (f 10 = false → L.getD 2 undef = vu) ∧ (f 10 = true → L.getD 2 undef = L.getD 1 undef) ∧ OwnK B u (.slice A0 ks.length c0) ks)) (by kernel_rfl) (by kernel_rfl) (JInv.start (⟨JT.start hx8.drew hB8' hB8 (HB138.out.ext (Ext.refl _).drew) (HO8.out.ext (Ext.refl _).drew) (HU8.out.ext (Ext.refl _).drew), HC8.out.ext (Ext.refl _).drew, fun _ => rfl, fun h => (by cases h), HK8.out.ext (Ext.refl _).drew⟩)) ?_ ?_
                · refine ⟨?o0, ?o1, ?o2, ?o3, ?o4, ?o5, ?o6, ?o7, ?o8, ?o9, ?o10, trivial⟩
                  case o0 =>
                    intro f a u h hfi hp hq hcl
                    have e11 := h.mem.2.2.1 (hq 10 _ rfl rfl)
                    replace e11 : a.eval (.tmp 11) = _ := e11
                    have q11 := e11
                    simp only [Act.eval, Array.getD_eq_getD_getElem?] at q11
                    exact h.yield rfl rfl 75 rfl (by change 75 < 90; decide) rfl _ rfl (fun L hL => hL) (by go_simp)
                  case o1 =>
                    intro f a u h hfi hp hq hcl
                    have q6 : a.tmps[6]?.getD undef = .slice (some x0) m cr := h.agree.att (by decide)
                    exact h.yield rfl rfl 76 rfl (by change 76 < 90; decide) rfl _ rfl (fun L hL => hL) (by go_simp)
                  case o2 =>
                    intro f a u h hfi hp hq hcl
                    have q76 := h.att 1 rfl (pre_of hp 1 rfl)
                    exact h.yield rfl rfl 77 rfl (by change 77 < 90; decide) rfl _ rfl (fun L hL => hL) (by go_simp)
                  case o3 =>
                    intro f a u h hfi hp hq hcl
                    have q77 := h.att 2 rfl (pre_of hp 2 rfl)
                    exact h.yield rfl rfl 78 rfl (by change 78 < 90; decide) rfl _ rfl (fun L hL => hL) (by go_simp)
                  case o4 =>
                    intro f a u h hfi hp hq hcl
                    have q78 := h.att 3 rfl (pre_of hp 3 rfl)
                    obtain ⟨z, hz, hzc⟩ := h.mem.2.1 0 _ HXK.out
                    cases hz
                    have hzz : u.cell? x0 = some (.string key) := hzc
                    exact h.yield rfl rfl 79 rfl (by change 79 < 90; decide) rfl _ rfl (fun L hL => hL) (by go_simp)
                  case o5 =>
                    intro f a u h hfi hp hq hcl
                    have q13 : a.tmps[13]?.getD undef = .pointer (some ⟨g13, 0, none⟩) := h.agree.att (by decide)
                    exact h.yield rfl rfl 80 rfl (by change 80 < 90; decide) rfl _ rfl (fun L hL => hL) (by go_simp)
                  case o6 =>
                    intro f a u h hfi hp hq hcl
                    exact h.yield rfl rfl 81 rfl (by change 81 < 90; decide) rfl _ rfl (fun L hL => hL) (run_of_sem rfl (by rw [h.at_ 5 rfl (pre_of hp 5 rfl)]; exact ld_id HO3.out (ob_cells h.mem.1.box HO3.out).1))
                  case o7 =>
                    intro f a u h hfi hp hq hcl
                    exact h.stepV rfl rfl 82 rfl (by change 82 < 90; decide) rfl _ rfl (wp_val (s := Instr.build 77 #[(0, a.eval (.tmp 79)), (1, a.eval (.tmp 81))]) (exec_build rfl (by rw [arr2])) (by rw [h.at_ 4 rfl (pre_of hp 4 rfl), h.at_ 6 rfl (pre_of hp 6 rfl)]; exact build_kid _ _ _ HO3.out) ⟨rfl, h.mem⟩)
                  case o8 =>
                    intro f a u h hfi hp hq hcl
                    refine h.turn rfl rfl (some 83) rfl rfl ?_
                    obtain ⟨hj, hc, hr3, hr4, hk⟩ := h.mem
                    refine wp_val (exec_buildSlice rfl (by rw [arr1]; simp only [show a.eval (.tmp 82) = _ from (h.at_ 7 rfl (pre_of hp 7 rfl))])) (lit1_kid u key o.1 HO3.out) ?_
                    have hL : ([83, 84, 11].map fun s => (a.put (some 83) (.slice (some ⟨u.heap.size, 0, none⟩) 1 1)).eval (.tmp s)) = [.slice (some ⟨u.heap.size, 0, none⟩) 1 1, a.eval (.tmp 84), a.eval (.tmp 11)] := by simp only [List.map_cons, List.map_nil, eval_put_eq (show 83 < a.tmps.size by rw [h.agree.2.1]; change 83 < 90; decide), eval_put_ne (show (84 : Nat) ≠ 83 by decide), eval_put_ne (show (11 : Nat) ≠ 83 by decide)]
                    refine ⟨_, rfl, ?_⟩
                    rw [hL]
                    exact ⟨hj.lit2' hfi (hq 9 _ rfl rfl) rfl rfl, hc.ext ((Ext.refl u).alloc (.cells (kdC (key, o.1)).toArray 77)), hr3, hr4, hk.ext ((Ext.refl u).alloc (.cells (kdC (key, o.1)).toArray 77))⟩
                  case o9 =>
                    intro f a u h hfi hp hq hcl
                    refine h.turn rfl rfl (some 84) rfl rfl ?_
                    obtain ⟨hj, hc, hr3, hr4, hk⟩ := h.mem
                    obtain ⟨qq, el, hqb⟩ := hj.lit2 (pre_of hp 8 rfl) hfi
                    replace el : a.eval (.tmp 83) = _ := el
                    have hown := hj.row0 hfi
                    refine wp_append u (.tmp 75) (.tmp 83) 71 rfl B2 77 (.agg (Value.string ByteArray.empty :: bv idNone).toArray) 34 56 Tryd.underlying71 kdI (by decide) (by decide) vu up.length _ (h.at_ 0 rfl (pre_of hp 0 rfl)) hown (some ⟨qq, 0, none⟩) 1 1 (kdC (key, o.1)) el (kdC_len HO3.out) hqb.cells (kdC_one _) (by simp only [maxLen]; omega) (by omega) hj.hBk ?_
                    intro v' u' ho' hg' hf'
                    have hL : ([83, 84, 11].map fun s => (a.put (some 84) (v')).eval (.tmp s)) = [a.eval (.tmp 83), v', a.eval (.tmp 11)] := by simp only [List.map_cons, List.map_nil, eval_put_eq (show 84 < a.tmps.size by rw [h.agree.2.1]; change 84 < 90; decide), eval_put_ne (show (83 : Nat) ≠ 84 by decide), eval_put_ne (show (11 : Nat) ≠ 84 by decide)]
                    refine ⟨v', rfl, ?_⟩
                    rw [hL]
                    exact ⟨hj.app2' (pre_of hp 8 rfl) hfi rfl rfl hwB2 (ownK_snoc ho') hg', hc.grown hg' (fun x hx => HNEU.out x hx), hr3, fun hf => (by have h1 := hq 10 _ rfl rfl; rw [show f 10 = true from hf] at h1; cases h1), World.ownsRow.kept hk hg' (by cases hv : (Value.slice A0 ks.length c0).ownBlock with | none => exact .inl rfl | some j => exact .inr (fun e => by have h8 := HKLT.out j hv; have h9 := (own_lt hown e.symm).1; omega))⟩
                  case o10 =>
                    intro f a u h hfi hp hq hcl
                    refine h.turn rfl rfl (some 11) rfl rfl ?_
                    obtain ⟨hj, hc, hr3, hr4, hk⟩ := h.mem
                    refine wp_yield (v := a.eval (.tmp 84)) (w' := u) (by go_simp) ?_
                    have hL : ([83, 84, 11].map fun s => (a.put (some 11) (a.eval (.tmp 84))).eval (.tmp s)) = [a.eval (.tmp 83), a.eval (.tmp 84), a.eval (.tmp 84)] := by simp only [List.map_cons, List.map_nil, eval_put_eq (show 11 < a.tmps.size by rw [h.agree.2.1]; change 11 < 90; decide), eval_put_ne (show (83 : Nat) ≠ 11 by decide), eval_put_ne (show (84 : Nat) ≠ 11 by decide)]
                    refine ⟨_, rfl, ?_⟩
                    rw [hL]
                    exact ⟨hj, hc, fun hf => (by cases hf), fun _ => rfl, hk⟩
                · intro f a u h hall hfar
                  have hag := h.agree.out
                  have hm := h.mem
                  simp only [List.foldl_cons, List.foldl_nil, Act.put, List.setIfInBounds_toArray, List.set_cons_zero, List.set_cons_succ] at hag
                  obtain ⟨hj, hc, hr3, hr4, hk⟩ := hm
                  rw [hall 8 (by decide), hall 9 (by decide)] at hj
                  have e11 := hr4 (hall 10 (by decide))
                  replace e11 : a.eval (.tmp 11) = a.eval (.tmp 84) := e11
                  have ho2 : OwnO B u vo3 (outs2 ++ [o]) := hj.out0 rfl
                  have hk2 : OwnK B2 u (a.eval (.tmp 84)) (up ++ [(key, o.1)]) := hj.row1 rfl
                  have hxu := hj.ext
                  have hBu := hj.hBk
                  rw [← e11] at hk2
                  clear hj hr3 hr4 e11
                  obtain ⟨vu2, hvu2⟩ : ∃ v, a.eval (.tmp 11) = v := ⟨_, rfl⟩
                  rw [hvu2] at hag hk2
                  clear hvu2
                  generalize a.eval (.tmp 75) = y75 at hag
                  generalize a.eval (.tmp 76) = y76 at hag
                  generalize a.eval (.tmp 77) = y77 at hag
                  generalize a.eval (.tmp 78) = y78 at hag
                  generalize a.eval (.tmp 79) = y79 at hag
                  generalize a.eval (.tmp 80) = y80 at hag
                  generalize a.eval (.tmp 81) = y81 at hag
                  generalize a.eval (.tmp 82) = y82 at hag
                  generalize a.eval (.tmp 83) = y83 at hag
                  generalize a.eval (.tmp 84) = y84 at hag
                  clear h hall hfar
                  subst hag
                  have hcut := cut_cells (c := cr) (k := 2) hc HXL.out hqm hmc
                  rw [← HA2.out, HXD.out] at hcut
                  have HO6 := Lib.hid ho2
                  have HU6 := Lib.hid hk2
                  have HK6 := Lib.hid hk
                  have HC6 := Lib.hid hcut.1
                  have HSM6 : Hid (Same A0 A2) := Lib.hid (fun x hx => by
                    obtain ⟨y, hy, hyx⟩ := hcut.2 x hx
                    obtain ⟨z, hz, hzy⟩ := HSM.out y hy
                    exact ⟨z, hz, hyx.trans hzy⟩)
                  have HST6 : Hid ((outs2 ++ [o]) ++ (upRow k (ks.drop (d + 2))).1 = outs ++ (upRow k ks).1 ∧ (up ++ [(key, o.1)]) ++ (upRow k (ks.drop (d + 2))).2 = (upRow k ks).2) := Lib.hid (by
                    obtain ⟨h1, h2⟩ := HST.out
                    rw [HSTEP.out] at h1 h2
                    exact ⟨by rw [← h1, List.append_assoc]; rfl, by rw [← h2, List.append_assoc]; rfl⟩)
                  clear ho2 hk2 hk hcut hc HST HSTEP HSM HC8 HO8 HU8 HK8 HB138 hx8 hB8 hB8'
                  go_wp2_with (refine wpList_slice_fromE rfl 71 77 (.tmp 85) (.tmp 86) rfl Tryd.underlying71 34 kd_info (some x0) m cr 2 .i64 rfl rfl hqm hmc A2 HA2.out ?_)
                  go_roundg (gk - 1)
                  case measure => omega
                  case rel => exact ⟨d + 2, outs2 ++ [o], up ++ [(key, o.1)], A2, m - 2, cr - 2, rfl, by omega, by omega, by omega, hqr, HO6, HU6, HK6, HSM6, HC6, HST6, by have a1 := congrArg List.length HST6.out.1; have a2 := congrArg List.length HST6.out.2; have a3 := HUL.out; simp only [List.length_append] at a1 a2 ⊢; omega, hxu, hBu⟩
              
              by_cases hv2 : m = 2
              · have hg4 : ((m : Int) == 4) = false := by rw [beq_eq_false_iff_ne]; omega
                have hg2 : ((m : Int) == 2) = true := by rw [hv2]; rfl
                have hq : grp m = 2 := by unfold grp; split <;> omega
                have hqm : 2 ≤ m := by omega
                have hqr : m - 2 ≠ 1 := by omega
                obtain ⟨cc, hcc⟩ : ∃ x, x = (ks.drop d).take 2 := ⟨_, rfl⟩
                have hcl : cc.length = 2 := by rw [hcc, List.length_take, HKM.out]; omega
                have HCC := Lib.hid hcc
                have HCL := Lib.hid hcl
                have HRC : Hid (RowOk k cc) := Lib.hid (by rw [hcc]; exact (HRO.out.drop _).take _)
                obtain ⟨o, ho⟩ : ∃ o, o = objT k (upT cc) := ⟨_, rfl⟩
                have HO := Lib.hid ho
                have HO3 : Hid (o.1.length = 33) := Lib.hid (by rw [ho]; exact (obj_id k HK0.out _).1)
                obtain ⟨key, hkey⟩ : ∃ s, headK (ks.drop d) = s := ⟨_, rfl⟩
                have HKEY := Lib.hid hkey
                have HSTEP : Hid (upRow k (ks.drop d) = (o :: (upRow k (ks.drop (d + 2))).1, (key, o.1) :: (upRow k (ks.drop (d + 2))).2)) := Lib.hid (by
                  rw [upRow_step k (show (ks.drop d).length ≠ 0 by rw [HKM.out]; omega), HKM.out, hq, ← hcc, ← ho, hkey, List.drop_drop])
                have HROW : Hid (Row wr Ar 34 (cc.map kdC)) := Lib.hid (by
                  have h1 := Cells.sub (sz := 34) (w := wr) (A := Ar) (css := (ks.drop d).map kdC) 0 2 (by rw [Nat.zero_mul, List.drop_zero]; exact HCE.out) (fun cs hcs => by obtain ⟨x, hx, rfl⟩ := List.mem_map.1 hcs; exact kdC_len (H33.out x hx)) (by decide)
                  rw [List.drop_zero, ← List.map_take, ← hcc] at h1
                  exact h1)
                have hqmi : (2 : Int) ≤ (m : Int) := by omega
                have hqci : (2 : Int) ≤ (cr : Int) := by omega
                clear hcc hcl ho hkey hq hv2 hv4
                go_upto_region 22 with (first
                  | (go_at_call 38; (with_reducible refine Calls.mono (rtree_up k cc Ar 2 cr wr HROW.out HCL.out (by omega) (by omega) (by omega) HRC.out HK0.out) ?_); rintro e w3 ⟨rfl, hx3⟩)
                  | (go_at_call 37; (with_reducible refine Calls.mono (robj_calls k (upT cc) w3 (up_bytes HRC.out (by rw [HCL.out]; omega) (by rw [HCL.out]; omega)) o HO.out (HT.out.ext (hx.trans hx3))) ?_); rintro e w4 ⟨rfl, hx4⟩)
                  | (refine wpList_store_blk rfl 35 (.tmp 13) (.tmp 70) rfl rfl w4.heap.size (obC o).toArray rfl rfl _ _ (Blk.new w4 _ _) (by rw [List.size_toArray, obC_len HO3.out]; rfl) (by kernel_rfl) (fun v hv => obC_one o v (by simpa using hv)) ?_; intro w5 hb13 hg13; have hx5 : Ext w4 w5 := ((Ext.refl _).alloc _).grown_ hg13 (fun j e => by cases e; exact Nat.le_refl _)))
                obtain ⟨g13, hg13e⟩ : ∃ g, g = w4.heap.size := ⟨_, rfl⟩
                rw [← hg13e] at hb13 ⊢
                have hw13 : wr.heap.size ≤ g13 := by rw [hg13e]; exact (hx3.trans hx4).size
                have hxr5 : Ext wr w5 := (hx3.trans hx4).trans hx5
                have HB13 := Lib.hid hb13
                have HO5 := Lib.hid (HOO.out.ext hxr5)
                have HU5 := Lib.hid (HOU.out.ext hxr5)
                have HK5 := Lib.hid (HOK.out.ext hxr5)
                have HC5 := Lib.hid (HCE.out.ext hxr5)
                have hx5w := hx.trans hxr5
                have hB5 : B2 ≤ w5.heap.size := Nat.le_trans hBw2 hxr5.size
                have hB5' : B ≤ w5.heap.size := Nat.le_trans hBB2 hB5
                clear hb13 hg13 hg13e hx3 hx4 hx5
                go_upto_region 23 with (first
                  | (refine wpList_load_blk rfl 35 (.tmp 13) rfl g13 rfl 35 _ _ HB13.out Tryd.underlying35 rfl (by rw [List.size_toArray, obC_len HO3.out]; kernel_rfl) ?_)
                  | (refine wpList_lit1 rfl (T := 35) (.tmp 72) rfl (.agg (obC o).toArray) rfl (obC o).toArray (lit1_obj _ o HO3.out) ?_)
                  | (at_builtin; refine wpList_append_o _ rfl (.tmp 71) (.tmp 73) rfl B vo outs2 rfl (HO5.out.ext ((Ext.refl _).alloc _)) (some ⟨w5.heap.size, 0, none⟩) o rfl (Cells.lit rfl (obC o) _ _) HO3.out (by omega) (Nat.le_trans hB5' ((Ext.refl _).alloc _).size) ?_; intro vo3 w8 ho8 hg8))
                obtain ⟨wl, hwl⟩ : ∃ u, u = w5.alloc (.cells (obC o).toArray 35) := ⟨_, rfl⟩
                rw [← hwl] at hg8
                have hxl : Ext w5 wl := by rw [hwl]; exact (Ext.refl _).alloc _
                have HOl : Hid (OwnO B wl vo outs2) := Lib.hid (HO5.out.ext hxl)
                have HO8 := Lib.hid ho8
                have HU8 : Hid (OwnK B2 w8 vu up) := Lib.hid (World.ownsRow.kept (HU5.out.ext hxl) hg8 (own_own_ne2 (HU5.out.ext hxl) HOl.out (by decide)))
                have HK8 : Hid (OwnK B w8 (.slice A0 ks.length c0) ks) := Lib.hid (World.ownsRow.kept (HK5.out.ext hxl) hg8 (own_own_ne2 (HK5.out.ext hxl) HOl.out (by decide)))
                have hx8 : Ext w w8 := (hx5w.trans hxl).grown_ hg8 (fun j e => Nat.le_trans hwB (own_lt HOl.out e).1)
                have HC8 : Hid (Cells w8 Ar ((ks.drop d).map kdC).flatten) := Lib.hid ((HC5.out.ext hxl).grown hg8 (fun x hx => HNEO.out x hx))
                have HB138 : Hid (Blk w8 g13 35 (obC o).toArray) := Lib.hid ((HB13.out.ext hxl).grown hg8 (fun e => by have := HLTO.out g13 e.symm; omega))
                have hB8 : B2 ≤ w8.heap.size := Nat.le_trans hB5 (Nat.le_trans hxl.size hg8.size)
                have hB8' : B ≤ w8.heap.size := Nat.le_trans hBB2 hB8
                obtain ⟨X, hX⟩ : ∃ X, X = ((ks.drop d).map kdC).flatten := ⟨_, rfl⟩
                rw [← hX] at HC8
                have HXK : Hid (X[0]? = some (.string key)) := Lib.hid (by
                  rw [hX]
                  have h1 := HKEY.out
                  have h2 := HKM.out
                  cases hk : ks.drop d with
                  | nil => rw [hk, List.length_nil] at h2; omega
                  | cons a t => rw [hk] at h1; rw [← h1]; rfl)
                have HXL : Hid (X.length = m * 34) := Lib.hid (by
                  rw [hX, flatten_len34 (fun cs hcs => by obtain ⟨x, hx, rfl⟩ := List.mem_map.1 hcs; exact kdC_len (H33.out x hx)), List.length_map, HKM.out])
                have HXD : Hid (X.drop (2 * 34) = ((ks.drop (d + 2)).map kdC).flatten) := Lib.hid (by
                  rw [hX, flatten_drop34 (fun cs hcs => by obtain ⟨x, hx, rfl⟩ := List.mem_map.1 hcs; exact kdC_len (H33.out x hx)) 2, ← List.map_drop, List.drop_drop])
                obtain ⟨x0, hx0A, hx0c⟩ := HC8.out 0 _ HXK.out
                subst hx0A
                obtain ⟨A2, hA2⟩ : ∃ A2, A2 = (if cr = 2 then some x0 else (some x0).map (·.add (2 * 34))) := ⟨_, rfl⟩
                have HA2 := Lib.hid hA2
                clear hwl hxl HOl ho8 hg8 hX hx0c hA2 HO5 HU5 HK5 HC5 HB13 hx5w hB5 hB5' hxr5 HROW HOO HOU HOK HCE
                refine wp_region_opsC (JInv [75, 76, 77, 78, 79, 80, 81, 82, 83, 84, 11] _ [(0, 75, vu), (1, 76, .slice (some x0) m cr), (2, 77, .pointer (some x0)), (3, 78, .pointer (some x0)), (4, 79, .string key), (5, 80, .pointer (some ⟨g13, 0, none⟩)), (6, 81, .agg (bv o.1).toArray), (7, 82, .agg (kdC (key, o.1)).toArray)] [83, 84, 11] (fun f L u => JT w B B2 g13 o (outs2 ++ [o]) vo3 (key, o.1) up vu false false (f 8) (f 9) undef undef (L.getD 0 undef) (L.getD 1 undef) u ∧ Cells u (some x0) X ∧ (f 10 = false → L.getD 2 undef = vu) ∧ (f 10 = true → L.getD 2 undef = L.getD 1 undef) ∧ OwnK B u (.slice A0 ks.length c0) ks)) (by kernel_rfl) (by kernel_rfl) (JInv.start (⟨JT.start hx8.drew hB8' hB8 (HB138.out.ext (Ext.refl _).drew) (HO8.out.ext (Ext.refl _).drew) (HU8.out.ext (Ext.refl _).drew), HC8.out.ext (Ext.refl _).drew, fun _ => rfl, fun h => (by cases h), HK8.out.ext (Ext.refl _).drew⟩)) ?_ ?_
                · refine ⟨?o0, ?o1, ?o2, ?o3, ?o4, ?o5, ?o6, ?o7, ?o8, ?o9, ?o10, trivial⟩
                  case o0 =>
                    intro f a u h hfi hp hq hcl
                    have e11 := h.mem.2.2.1 (hq 10 _ rfl rfl)
                    replace e11 : a.eval (.tmp 11) = _ := e11
                    have q11 := e11
                    simp only [Act.eval, Array.getD_eq_getD_getElem?] at q11
                    exact h.yield rfl rfl 75 rfl (by change 75 < 90; decide) rfl _ rfl (fun L hL => hL) (by go_simp)
                  case o1 =>
                    intro f a u h hfi hp hq hcl
                    have q6 : a.tmps[6]?.getD undef = .slice (some x0) m cr := h.agree.att (by decide)
                    exact h.yield rfl rfl 76 rfl (by change 76 < 90; decide) rfl _ rfl (fun L hL => hL) (by go_simp)
                  case o2 =>
                    intro f a u h hfi hp hq hcl
                    have q76 := h.att 1 rfl (pre_of hp 1 rfl)
                    exact h.yield rfl rfl 77 rfl (by change 77 < 90; decide) rfl _ rfl (fun L hL => hL) (by go_simp)
                  case o3 =>
                    intro f a u h hfi hp hq hcl
                    have q77 := h.att 2 rfl (pre_of hp 2 rfl)
                    exact h.yield rfl rfl 78 rfl (by change 78 < 90; decide) rfl _ rfl (fun L hL => hL) (by go_simp)
                  case o4 =>
                    intro f a u h hfi hp hq hcl
                    have q78 := h.att 3 rfl (pre_of hp 3 rfl)
                    obtain ⟨z, hz, hzc⟩ := h.mem.2.1 0 _ HXK.out
                    cases hz
                    have hzz : u.cell? x0 = some (.string key) := hzc
                    exact h.yield rfl rfl 79 rfl (by change 79 < 90; decide) rfl _ rfl (fun L hL => hL) (by go_simp)
                  case o5 =>
                    intro f a u h hfi hp hq hcl
                    have q13 : a.tmps[13]?.getD undef = .pointer (some ⟨g13, 0, none⟩) := h.agree.att (by decide)
                    exact h.yield rfl rfl 80 rfl (by change 80 < 90; decide) rfl _ rfl (fun L hL => hL) (by go_simp)
                  case o6 =>
                    intro f a u h hfi hp hq hcl
                    exact h.yield rfl rfl 81 rfl (by change 81 < 90; decide) rfl _ rfl (fun L hL => hL) (run_of_sem rfl (by rw [h.at_ 5 rfl (pre_of hp 5 rfl)]; exact ld_id HO3.out (ob_cells h.mem.1.box HO3.out).1))
                  case o7 =>
                    intro f a u h hfi hp hq hcl
                    exact h.stepV rfl rfl 82 rfl (by change 82 < 90; decide) rfl _ rfl (wp_val (s := Instr.build 77 #[(0, a.eval (.tmp 79)), (1, a.eval (.tmp 81))]) (exec_build rfl (by rw [arr2])) (by rw [h.at_ 4 rfl (pre_of hp 4 rfl), h.at_ 6 rfl (pre_of hp 6 rfl)]; exact build_kid _ _ _ HO3.out) ⟨rfl, h.mem⟩)
                  case o8 =>
                    intro f a u h hfi hp hq hcl
                    refine h.turn rfl rfl (some 83) rfl rfl ?_
                    obtain ⟨hj, hc, hr3, hr4, hk⟩ := h.mem
                    refine wp_val (exec_buildSlice rfl (by rw [arr1]; simp only [show a.eval (.tmp 82) = _ from (h.at_ 7 rfl (pre_of hp 7 rfl))])) (lit1_kid u key o.1 HO3.out) ?_
                    have hL : ([83, 84, 11].map fun s => (a.put (some 83) (.slice (some ⟨u.heap.size, 0, none⟩) 1 1)).eval (.tmp s)) = [.slice (some ⟨u.heap.size, 0, none⟩) 1 1, a.eval (.tmp 84), a.eval (.tmp 11)] := by simp only [List.map_cons, List.map_nil, eval_put_eq (show 83 < a.tmps.size by rw [h.agree.2.1]; change 83 < 90; decide), eval_put_ne (show (84 : Nat) ≠ 83 by decide), eval_put_ne (show (11 : Nat) ≠ 83 by decide)]
                    refine ⟨_, rfl, ?_⟩
                    rw [hL]
                    exact ⟨hj.lit2' hfi (hq 9 _ rfl rfl) rfl rfl, hc.ext ((Ext.refl u).alloc (.cells (kdC (key, o.1)).toArray 77)), hr3, hr4, hk.ext ((Ext.refl u).alloc (.cells (kdC (key, o.1)).toArray 77))⟩
                  case o9 =>
                    intro f a u h hfi hp hq hcl
                    refine h.turn rfl rfl (some 84) rfl rfl ?_
                    obtain ⟨hj, hc, hr3, hr4, hk⟩ := h.mem
                    obtain ⟨qq, el, hqb⟩ := hj.lit2 (pre_of hp 8 rfl) hfi
                    replace el : a.eval (.tmp 83) = _ := el
                    have hown := hj.row0 hfi
                    refine wp_append u (.tmp 75) (.tmp 83) 71 rfl B2 77 (.agg (Value.string ByteArray.empty :: bv idNone).toArray) 34 56 Tryd.underlying71 kdI (by decide) (by decide) vu up.length _ (h.at_ 0 rfl (pre_of hp 0 rfl)) hown (some ⟨qq, 0, none⟩) 1 1 (kdC (key, o.1)) el (kdC_len HO3.out) hqb.cells (kdC_one _) (by simp only [maxLen]; omega) (by omega) hj.hBk ?_
                    intro v' u' ho' hg' hf'
                    have hL : ([83, 84, 11].map fun s => (a.put (some 84) (v')).eval (.tmp s)) = [a.eval (.tmp 83), v', a.eval (.tmp 11)] := by simp only [List.map_cons, List.map_nil, eval_put_eq (show 84 < a.tmps.size by rw [h.agree.2.1]; change 84 < 90; decide), eval_put_ne (show (83 : Nat) ≠ 84 by decide), eval_put_ne (show (11 : Nat) ≠ 84 by decide)]
                    refine ⟨v', rfl, ?_⟩
                    rw [hL]
                    exact ⟨hj.app2' (pre_of hp 8 rfl) hfi rfl rfl hwB2 (ownK_snoc ho') hg', hc.grown hg' (fun x hx => HNEU.out x hx), hr3, fun hf => (by have h1 := hq 10 _ rfl rfl; rw [show f 10 = true from hf] at h1; cases h1), World.ownsRow.kept hk hg' (by cases hv : (Value.slice A0 ks.length c0).ownBlock with | none => exact .inl rfl | some j => exact .inr (fun e => by have h8 := HKLT.out j hv; have h9 := (own_lt hown e.symm).1; omega))⟩
                  case o10 =>
                    intro f a u h hfi hp hq hcl
                    refine h.turn rfl rfl (some 11) rfl rfl ?_
                    obtain ⟨hj, hc, hr3, hr4, hk⟩ := h.mem
                    refine wp_yield (v := a.eval (.tmp 84)) (w' := u) (by go_simp) ?_
                    have hL : ([83, 84, 11].map fun s => (a.put (some 11) (a.eval (.tmp 84))).eval (.tmp s)) = [a.eval (.tmp 83), a.eval (.tmp 84), a.eval (.tmp 84)] := by simp only [List.map_cons, List.map_nil, eval_put_eq (show 11 < a.tmps.size by rw [h.agree.2.1]; change 11 < 90; decide), eval_put_ne (show (83 : Nat) ≠ 11 by decide), eval_put_ne (show (84 : Nat) ≠ 11 by decide)]
                    refine ⟨_, rfl, ?_⟩
                    rw [hL]
                    exact ⟨hj, hc, fun hf => (by cases hf), fun _ => rfl, hk⟩
                · intro f a u h hall hfar
                  have hag := h.agree.out
                  have hm := h.mem
                  simp only [List.foldl_cons, List.foldl_nil, Act.put, List.setIfInBounds_toArray, List.set_cons_zero, List.set_cons_succ] at hag
                  obtain ⟨hj, hc, hr3, hr4, hk⟩ := hm
                  rw [hall 8 (by decide), hall 9 (by decide)] at hj
                  have e11 := hr4 (hall 10 (by decide))
                  replace e11 : a.eval (.tmp 11) = a.eval (.tmp 84) := e11
                  have ho2 : OwnO B u vo3 (outs2 ++ [o]) := hj.out0 rfl
                  have hk2 : OwnK B2 u (a.eval (.tmp 84)) (up ++ [(key, o.1)]) := hj.row1 rfl
                  have hxu := hj.ext
                  have hBu := hj.hBk
                  rw [← e11] at hk2
                  clear hj hr3 hr4 e11
                  obtain ⟨vu2, hvu2⟩ : ∃ v, a.eval (.tmp 11) = v := ⟨_, rfl⟩
                  rw [hvu2] at hag hk2
                  clear hvu2
                  generalize a.eval (.tmp 75) = y75 at hag
                  generalize a.eval (.tmp 76) = y76 at hag
                  generalize a.eval (.tmp 77) = y77 at hag
                  generalize a.eval (.tmp 78) = y78 at hag
                  generalize a.eval (.tmp 79) = y79 at hag
                  generalize a.eval (.tmp 80) = y80 at hag
                  generalize a.eval (.tmp 81) = y81 at hag
                  generalize a.eval (.tmp 82) = y82 at hag
                  generalize a.eval (.tmp 83) = y83 at hag
                  generalize a.eval (.tmp 84) = y84 at hag
                  clear h hall hfar
                  subst hag
                  have hcut := cut_cells (c := cr) (k := 2) hc HXL.out hqm hmc
                  rw [← HA2.out, HXD.out] at hcut
                  have HO6 := Lib.hid ho2
                  have HU6 := Lib.hid hk2
                  have HK6 := Lib.hid hk
                  have HC6 := Lib.hid hcut.1
                  have HSM6 : Hid (Same A0 A2) := Lib.hid (fun x hx => by
                    obtain ⟨y, hy, hyx⟩ := hcut.2 x hx
                    obtain ⟨z, hz, hzy⟩ := HSM.out y hy
                    exact ⟨z, hz, hyx.trans hzy⟩)
                  have HST6 : Hid ((outs2 ++ [o]) ++ (upRow k (ks.drop (d + 2))).1 = outs ++ (upRow k ks).1 ∧ (up ++ [(key, o.1)]) ++ (upRow k (ks.drop (d + 2))).2 = (upRow k ks).2) := Lib.hid (by
                    obtain ⟨h1, h2⟩ := HST.out
                    rw [HSTEP.out] at h1 h2
                    exact ⟨by rw [← h1, List.append_assoc]; rfl, by rw [← h2, List.append_assoc]; rfl⟩)
                  clear ho2 hk2 hk hcut hc HST HSTEP HSM HC8 HO8 HU8 HK8 HB138 hx8 hB8 hB8'
                  go_wp2_with (refine wpList_slice_fromE rfl 71 77 (.tmp 85) (.tmp 86) rfl Tryd.underlying71 34 kd_info (some x0) m cr 2 .i64 rfl rfl hqm hmc A2 HA2.out ?_)
                  go_roundg (gk - 1)
                  case measure => omega
                  case rel => exact ⟨d + 2, outs2 ++ [o], up ++ [(key, o.1)], A2, m - 2, cr - 2, rfl, by omega, by omega, by omega, hqr, HO6, HU6, HK6, HSM6, HC6, HST6, by have a1 := congrArg List.length HST6.out.1; have a2 := congrArg List.length HST6.out.2; have a3 := HUL.out; simp only [List.length_append] at a1 a2 ⊢; omega, hxu, hBu⟩
              
              · have hg4 : ((m : Int) == 4) = false := by rw [beq_eq_false_iff_ne]; omega
                have hg2 : ((m : Int) == 2) = false := by rw [beq_eq_false_iff_ne]; omega
                have hq : grp m = 3 := by unfold grp; split <;> omega
                have hqm : 3 ≤ m := by omega
                have hqr : m - 3 ≠ 1 := by omega
                obtain ⟨cc, hcc⟩ : ∃ x, x = (ks.drop d).take 3 := ⟨_, rfl⟩
                have hcl : cc.length = 3 := by rw [hcc, List.length_take, HKM.out]; omega
                have HCC := Lib.hid hcc
                have HCL := Lib.hid hcl
                have HRC : Hid (RowOk k cc) := Lib.hid (by rw [hcc]; exact (HRO.out.drop _).take _)
                obtain ⟨o, ho⟩ : ∃ o, o = objT k (upT cc) := ⟨_, rfl⟩
                have HO := Lib.hid ho
                have HO3 : Hid (o.1.length = 33) := Lib.hid (by rw [ho]; exact (obj_id k HK0.out _).1)
                obtain ⟨key, hkey⟩ : ∃ s, headK (ks.drop d) = s := ⟨_, rfl⟩
                have HKEY := Lib.hid hkey
                have HSTEP : Hid (upRow k (ks.drop d) = (o :: (upRow k (ks.drop (d + 3))).1, (key, o.1) :: (upRow k (ks.drop (d + 3))).2)) := Lib.hid (by
                  rw [upRow_step k (show (ks.drop d).length ≠ 0 by rw [HKM.out]; omega), HKM.out, hq, ← hcc, ← ho, hkey, List.drop_drop])
                have HROW : Hid (Row wr Ar 34 (cc.map kdC)) := Lib.hid (by
                  have h1 := Cells.sub (sz := 34) (w := wr) (A := Ar) (css := (ks.drop d).map kdC) 0 3 (by rw [Nat.zero_mul, List.drop_zero]; exact HCE.out) (fun cs hcs => by obtain ⟨x, hx, rfl⟩ := List.mem_map.1 hcs; exact kdC_len (H33.out x hx)) (by decide)
                  rw [List.drop_zero, ← List.map_take, ← hcc] at h1
                  exact h1)
                have hqmi : (3 : Int) ≤ (m : Int) := by omega
                have hqci : (3 : Int) ≤ (cr : Int) := by omega
                clear hcc hcl ho hkey hq hv2 hv4
                go_upto_region 22 with (first
                  | (go_at_call 38; (with_reducible refine Calls.mono (rtree_up k cc Ar 3 cr wr HROW.out HCL.out (by omega) (by omega) (by omega) HRC.out HK0.out) ?_); rintro e w3 ⟨rfl, hx3⟩)
                  | (go_at_call 37; (with_reducible refine Calls.mono (robj_calls k (upT cc) w3 (up_bytes HRC.out (by rw [HCL.out]; omega) (by rw [HCL.out]; omega)) o HO.out (HT.out.ext (hx.trans hx3))) ?_); rintro e w4 ⟨rfl, hx4⟩)
                  | (refine wpList_store_blk rfl 35 (.tmp 13) (.tmp 70) rfl rfl w4.heap.size (obC o).toArray rfl rfl _ _ (Blk.new w4 _ _) (by rw [List.size_toArray, obC_len HO3.out]; rfl) (by kernel_rfl) (fun v hv => obC_one o v (by simpa using hv)) ?_; intro w5 hb13 hg13; have hx5 : Ext w4 w5 := ((Ext.refl _).alloc _).grown_ hg13 (fun j e => by cases e; exact Nat.le_refl _)))
                obtain ⟨g13, hg13e⟩ : ∃ g, g = w4.heap.size := ⟨_, rfl⟩
                rw [← hg13e] at hb13 ⊢
                have hw13 : wr.heap.size ≤ g13 := by rw [hg13e]; exact (hx3.trans hx4).size
                have hxr5 : Ext wr w5 := (hx3.trans hx4).trans hx5
                have HB13 := Lib.hid hb13
                have HO5 := Lib.hid (HOO.out.ext hxr5)
                have HU5 := Lib.hid (HOU.out.ext hxr5)
                have HK5 := Lib.hid (HOK.out.ext hxr5)
                have HC5 := Lib.hid (HCE.out.ext hxr5)
                have hx5w := hx.trans hxr5
                have hB5 : B2 ≤ w5.heap.size := Nat.le_trans hBw2 hxr5.size
                have hB5' : B ≤ w5.heap.size := Nat.le_trans hBB2 hB5
                clear hb13 hg13 hg13e hx3 hx4 hx5
                go_upto_region 23 with (first
                  | (refine wpList_load_blk rfl 35 (.tmp 13) rfl g13 rfl 35 _ _ HB13.out Tryd.underlying35 rfl (by rw [List.size_toArray, obC_len HO3.out]; kernel_rfl) ?_)
                  | (refine wpList_lit1 rfl (T := 35) (.tmp 72) rfl (.agg (obC o).toArray) rfl (obC o).toArray (lit1_obj _ o HO3.out) ?_)
                  | (at_builtin; refine wpList_append_o _ rfl (.tmp 71) (.tmp 73) rfl B vo outs2 rfl (HO5.out.ext ((Ext.refl _).alloc _)) (some ⟨w5.heap.size, 0, none⟩) o rfl (Cells.lit rfl (obC o) _ _) HO3.out (by omega) (Nat.le_trans hB5' ((Ext.refl _).alloc _).size) ?_; intro vo3 w8 ho8 hg8))
                obtain ⟨wl, hwl⟩ : ∃ u, u = w5.alloc (.cells (obC o).toArray 35) := ⟨_, rfl⟩
                rw [← hwl] at hg8
                have hxl : Ext w5 wl := by rw [hwl]; exact (Ext.refl _).alloc _
                have HOl : Hid (OwnO B wl vo outs2) := Lib.hid (HO5.out.ext hxl)
                have HO8 := Lib.hid ho8
                have HU8 : Hid (OwnK B2 w8 vu up) := Lib.hid (World.ownsRow.kept (HU5.out.ext hxl) hg8 (own_own_ne2 (HU5.out.ext hxl) HOl.out (by decide)))
                have HK8 : Hid (OwnK B w8 (.slice A0 ks.length c0) ks) := Lib.hid (World.ownsRow.kept (HK5.out.ext hxl) hg8 (own_own_ne2 (HK5.out.ext hxl) HOl.out (by decide)))
                have hx8 : Ext w w8 := (hx5w.trans hxl).grown_ hg8 (fun j e => Nat.le_trans hwB (own_lt HOl.out e).1)
                have HC8 : Hid (Cells w8 Ar ((ks.drop d).map kdC).flatten) := Lib.hid ((HC5.out.ext hxl).grown hg8 (fun x hx => HNEO.out x hx))
                have HB138 : Hid (Blk w8 g13 35 (obC o).toArray) := Lib.hid ((HB13.out.ext hxl).grown hg8 (fun e => by have := HLTO.out g13 e.symm; omega))
                have hB8 : B2 ≤ w8.heap.size := Nat.le_trans hB5 (Nat.le_trans hxl.size hg8.size)
                have hB8' : B ≤ w8.heap.size := Nat.le_trans hBB2 hB8
                obtain ⟨X, hX⟩ : ∃ X, X = ((ks.drop d).map kdC).flatten := ⟨_, rfl⟩
                rw [← hX] at HC8
                have HXK : Hid (X[0]? = some (.string key)) := Lib.hid (by
                  rw [hX]
                  have h1 := HKEY.out
                  have h2 := HKM.out
                  cases hk : ks.drop d with
                  | nil => rw [hk, List.length_nil] at h2; omega
                  | cons a t => rw [hk] at h1; rw [← h1]; rfl)
                have HXL : Hid (X.length = m * 34) := Lib.hid (by
                  rw [hX, flatten_len34 (fun cs hcs => by obtain ⟨x, hx, rfl⟩ := List.mem_map.1 hcs; exact kdC_len (H33.out x hx)), List.length_map, HKM.out])
                have HXD : Hid (X.drop (3 * 34) = ((ks.drop (d + 3)).map kdC).flatten) := Lib.hid (by
                  rw [hX, flatten_drop34 (fun cs hcs => by obtain ⟨x, hx, rfl⟩ := List.mem_map.1 hcs; exact kdC_len (H33.out x hx)) 3, ← List.map_drop, List.drop_drop])
                obtain ⟨x0, hx0A, hx0c⟩ := HC8.out 0 _ HXK.out
                subst hx0A
                obtain ⟨A2, hA2⟩ : ∃ A2, A2 = (if cr = 3 then some x0 else (some x0).map (·.add (3 * 34))) := ⟨_, rfl⟩
                have HA2 := Lib.hid hA2
                clear hwl hxl HOl ho8 hg8 hX hx0c hA2 HO5 HU5 HK5 HC5 HB13 hx5w hB5 hB5' hxr5 HROW HOO HOU HOK HCE
                refine wp_region_opsC (JInv [75, 76, 77, 78, 79, 80, 81, 82, 83, 84, 11] _ [(0, 75, vu), (1, 76, .slice (some x0) m cr), (2, 77, .pointer (some x0)), (3, 78, .pointer (some x0)), (4, 79, .string key), (5, 80, .pointer (some ⟨g13, 0, none⟩)), (6, 81, .agg (bv o.1).toArray), (7, 82, .agg (kdC (key, o.1)).toArray)] [83, 84, 11] (fun f L u => JT w B B2 g13 o (outs2 ++ [o]) vo3 (key, o.1) up vu false false (f 8) (f 9) undef undef (L.getD 0 undef) (L.getD 1 undef) u ∧ Cells u (some x0) X ∧ (f 10 = false → L.getD 2 undef = vu) ∧ (f 10 = true → L.getD 2 undef = L.getD 1 undef) ∧ OwnK B u (.slice A0 ks.length c0) ks)) (by kernel_rfl) (by kernel_rfl) (JInv.start (⟨JT.start hx8.drew hB8' hB8 (HB138.out.ext (Ext.refl _).drew) (HO8.out.ext (Ext.refl _).drew) (HU8.out.ext (Ext.refl _).drew), HC8.out.ext (Ext.refl _).drew, fun _ => rfl, fun h => (by cases h), HK8.out.ext (Ext.refl _).drew⟩)) ?_ ?_
                · refine ⟨?o0, ?o1, ?o2, ?o3, ?o4, ?o5, ?o6, ?o7, ?o8, ?o9, ?o10, trivial⟩
                  case o0 =>
                    intro f a u h hfi hp hq hcl
                    have e11 := h.mem.2.2.1 (hq 10 _ rfl rfl)
                    replace e11 : a.eval (.tmp 11) = _ := e11
                    have q11 := e11
                    simp only [Act.eval, Array.getD_eq_getD_getElem?] at q11
                    exact h.yield rfl rfl 75 rfl (by change 75 < 90; decide) rfl _ rfl (fun L hL => hL) (by go_simp)
                  case o1 =>
                    intro f a u h hfi hp hq hcl
                    have q6 : a.tmps[6]?.getD undef = .slice (some x0) m cr := h.agree.att (by decide)
                    exact h.yield rfl rfl 76 rfl (by change 76 < 90; decide) rfl _ rfl (fun L hL => hL) (by go_simp)
                  case o2 =>
                    intro f a u h hfi hp hq hcl
                    have q76 := h.att 1 rfl (pre_of hp 1 rfl)
                    exact h.yield rfl rfl 77 rfl (by change 77 < 90; decide) rfl _ rfl (fun L hL => hL) (by go_simp)
                  case o3 =>
                    intro f a u h hfi hp hq hcl
                    have q77 := h.att 2 rfl (pre_of hp 2 rfl)
                    exact h.yield rfl rfl 78 rfl (by change 78 < 90; decide) rfl _ rfl (fun L hL => hL) (by go_simp)
                  case o4 =>
                    intro f a u h hfi hp hq hcl
                    have q78 := h.att 3 rfl (pre_of hp 3 rfl)
                    obtain ⟨z, hz, hzc⟩ := h.mem.2.1 0 _ HXK.out
                    cases hz
                    have hzz : u.cell? x0 = some (.string key) := hzc
                    exact h.yield rfl rfl 79 rfl (by change 79 < 90; decide) rfl _ rfl (fun L hL => hL) (by go_simp)
                  case o5 =>
                    intro f a u h hfi hp hq hcl
                    have q13 : a.tmps[13]?.getD undef = .pointer (some ⟨g13, 0, none⟩) := h.agree.att (by decide)
                    exact h.yield rfl rfl 80 rfl (by change 80 < 90; decide) rfl _ rfl (fun L hL => hL) (by go_simp)
                  case o6 =>
                    intro f a u h hfi hp hq hcl
                    exact h.yield rfl rfl 81 rfl (by change 81 < 90; decide) rfl _ rfl (fun L hL => hL) (run_of_sem rfl (by rw [h.at_ 5 rfl (pre_of hp 5 rfl)]; exact ld_id HO3.out (ob_cells h.mem.1.box HO3.out).1))
                  case o7 =>
                    intro f a u h hfi hp hq hcl
                    exact h.stepV rfl rfl 82 rfl (by change 82 < 90; decide) rfl _ rfl (wp_val (s := Instr.build 77 #[(0, a.eval (.tmp 79)), (1, a.eval (.tmp 81))]) (exec_build rfl (by rw [arr2])) (by rw [h.at_ 4 rfl (pre_of hp 4 rfl), h.at_ 6 rfl (pre_of hp 6 rfl)]; exact build_kid _ _ _ HO3.out) ⟨rfl, h.mem⟩)
                  case o8 =>
                    intro f a u h hfi hp hq hcl
                    refine h.turn rfl rfl (some 83) rfl rfl ?_
                    obtain ⟨hj, hc, hr3, hr4, hk⟩ := h.mem
                    refine wp_val (exec_buildSlice rfl (by rw [arr1]; simp only [show a.eval (.tmp 82) = _ from (h.at_ 7 rfl (pre_of hp 7 rfl))])) (lit1_kid u key o.1 HO3.out) ?_
                    have hL : ([83, 84, 11].map fun s => (a.put (some 83) (.slice (some ⟨u.heap.size, 0, none⟩) 1 1)).eval (.tmp s)) = [.slice (some ⟨u.heap.size, 0, none⟩) 1 1, a.eval (.tmp 84), a.eval (.tmp 11)] := by simp only [List.map_cons, List.map_nil, eval_put_eq (show 83 < a.tmps.size by rw [h.agree.2.1]; change 83 < 90; decide), eval_put_ne (show (84 : Nat) ≠ 83 by decide), eval_put_ne (show (11 : Nat) ≠ 83 by decide)]
                    refine ⟨_, rfl, ?_⟩
                    rw [hL]
                    exact ⟨hj.lit2' hfi (hq 9 _ rfl rfl) rfl rfl, hc.ext ((Ext.refl u).alloc (.cells (kdC (key, o.1)).toArray 77)), hr3, hr4, hk.ext ((Ext.refl u).alloc (.cells (kdC (key, o.1)).toArray 77))⟩
                  case o9 =>
                    intro f a u h hfi hp hq hcl
                    refine h.turn rfl rfl (some 84) rfl rfl ?_
                    obtain ⟨hj, hc, hr3, hr4, hk⟩ := h.mem
                    obtain ⟨qq, el, hqb⟩ := hj.lit2 (pre_of hp 8 rfl) hfi
                    replace el : a.eval (.tmp 83) = _ := el
                    have hown := hj.row0 hfi
                    refine wp_append u (.tmp 75) (.tmp 83) 71 rfl B2 77 (.agg (Value.string ByteArray.empty :: bv idNone).toArray) 34 56 Tryd.underlying71 kdI (by decide) (by decide) vu up.length _ (h.at_ 0 rfl (pre_of hp 0 rfl)) hown (some ⟨qq, 0, none⟩) 1 1 (kdC (key, o.1)) el (kdC_len HO3.out) hqb.cells (kdC_one _) (by simp only [maxLen]; omega) (by omega) hj.hBk ?_
                    intro v' u' ho' hg' hf'
                    have hL : ([83, 84, 11].map fun s => (a.put (some 84) (v')).eval (.tmp s)) = [a.eval (.tmp 83), v', a.eval (.tmp 11)] := by simp only [List.map_cons, List.map_nil, eval_put_eq (show 84 < a.tmps.size by rw [h.agree.2.1]; change 84 < 90; decide), eval_put_ne (show (83 : Nat) ≠ 84 by decide), eval_put_ne (show (11 : Nat) ≠ 84 by decide)]
                    refine ⟨v', rfl, ?_⟩
                    rw [hL]
                    exact ⟨hj.app2' (pre_of hp 8 rfl) hfi rfl rfl hwB2 (ownK_snoc ho') hg', hc.grown hg' (fun x hx => HNEU.out x hx), hr3, fun hf => (by have h1 := hq 10 _ rfl rfl; rw [show f 10 = true from hf] at h1; cases h1), World.ownsRow.kept hk hg' (by cases hv : (Value.slice A0 ks.length c0).ownBlock with | none => exact .inl rfl | some j => exact .inr (fun e => by have h8 := HKLT.out j hv; have h9 := (own_lt hown e.symm).1; omega))⟩
                  case o10 =>
                    intro f a u h hfi hp hq hcl
                    refine h.turn rfl rfl (some 11) rfl rfl ?_
                    obtain ⟨hj, hc, hr3, hr4, hk⟩ := h.mem
                    refine wp_yield (v := a.eval (.tmp 84)) (w' := u) (by go_simp) ?_
                    have hL : ([83, 84, 11].map fun s => (a.put (some 11) (a.eval (.tmp 84))).eval (.tmp s)) = [a.eval (.tmp 83), a.eval (.tmp 84), a.eval (.tmp 84)] := by simp only [List.map_cons, List.map_nil, eval_put_eq (show 11 < a.tmps.size by rw [h.agree.2.1]; change 11 < 90; decide), eval_put_ne (show (83 : Nat) ≠ 11 by decide), eval_put_ne (show (84 : Nat) ≠ 11 by decide)]
                    refine ⟨_, rfl, ?_⟩
                    rw [hL]
                    exact ⟨hj, hc, fun hf => (by cases hf), fun _ => rfl, hk⟩
                · intro f a u h hall hfar
                  have hag := h.agree.out
                  have hm := h.mem
                  simp only [List.foldl_cons, List.foldl_nil, Act.put, List.setIfInBounds_toArray, List.set_cons_zero, List.set_cons_succ] at hag
                  obtain ⟨hj, hc, hr3, hr4, hk⟩ := hm
                  rw [hall 8 (by decide), hall 9 (by decide)] at hj
                  have e11 := hr4 (hall 10 (by decide))
                  replace e11 : a.eval (.tmp 11) = a.eval (.tmp 84) := e11
                  have ho2 : OwnO B u vo3 (outs2 ++ [o]) := hj.out0 rfl
                  have hk2 : OwnK B2 u (a.eval (.tmp 84)) (up ++ [(key, o.1)]) := hj.row1 rfl
                  have hxu := hj.ext
                  have hBu := hj.hBk
                  rw [← e11] at hk2
                  clear hj hr3 hr4 e11
                  obtain ⟨vu2, hvu2⟩ : ∃ v, a.eval (.tmp 11) = v := ⟨_, rfl⟩
                  rw [hvu2] at hag hk2
                  clear hvu2
                  generalize a.eval (.tmp 75) = y75 at hag
                  generalize a.eval (.tmp 76) = y76 at hag
                  generalize a.eval (.tmp 77) = y77 at hag
                  generalize a.eval (.tmp 78) = y78 at hag
                  generalize a.eval (.tmp 79) = y79 at hag
                  generalize a.eval (.tmp 80) = y80 at hag
                  generalize a.eval (.tmp 81) = y81 at hag
                  generalize a.eval (.tmp 82) = y82 at hag
                  generalize a.eval (.tmp 83) = y83 at hag
                  generalize a.eval (.tmp 84) = y84 at hag
                  clear h hall hfar
                  subst hag
                  have hcut := cut_cells (c := cr) (k := 3) hc HXL.out hqm hmc
                  rw [← HA2.out, HXD.out] at hcut
                  have HO6 := Lib.hid ho2
                  have HU6 := Lib.hid hk2
                  have HK6 := Lib.hid hk
                  have HC6 := Lib.hid hcut.1
                  have HSM6 : Hid (Same A0 A2) := Lib.hid (fun x hx => by
                    obtain ⟨y, hy, hyx⟩ := hcut.2 x hx
                    obtain ⟨z, hz, hzy⟩ := HSM.out y hy
                    exact ⟨z, hz, hyx.trans hzy⟩)
                  have HST6 : Hid ((outs2 ++ [o]) ++ (upRow k (ks.drop (d + 3))).1 = outs ++ (upRow k ks).1 ∧ (up ++ [(key, o.1)]) ++ (upRow k (ks.drop (d + 3))).2 = (upRow k ks).2) := Lib.hid (by
                    obtain ⟨h1, h2⟩ := HST.out
                    rw [HSTEP.out] at h1 h2
                    exact ⟨by rw [← h1, List.append_assoc]; rfl, by rw [← h2, List.append_assoc]; rfl⟩)
                  clear ho2 hk2 hk hcut hc HST HSTEP HSM HC8 HO8 HU8 HK8 HB138 hx8 hB8 hB8'
                  go_wp2_with (refine wpList_slice_fromE rfl 71 77 (.tmp 85) (.tmp 86) rfl Tryd.underlying71 34 kd_info (some x0) m cr 3 .i64 rfl rfl hqm hmc A2 HA2.out ?_)
                  go_roundg (gk - 1)
                  case measure => omega
                  case rel => exact ⟨d + 3, outs2 ++ [o], up ++ [(key, o.1)], A2, m - 3, cr - 3, rfl, by omega, by omega, by omega, hqr, HO6, HU6, HK6, HSM6, HC6, HST6, by have a1 := congrArg List.length HST6.out.1; have a2 := congrArg List.length HST6.out.2; have a3 := HUL.out; simp only [List.length_append] at a1 a2 ⊢; omega, hxu, hBu⟩
              
        · have h1i : ¬ (1 : Int) < (nk : Int) := by omega
          have hnk1 : nk = 1 := by omega
          have HFIN : Hid ((buildT k ps).1 = outs) := Lib.hid (by
            rw [HBT.out, upAll_one k (show ¬ 1 < ks.length by rw [HNK.out]; omega)]
            exact List.append_nil _)
          go_wp2
          go_ret
          exact RBuildP.of HOO.out HBE.out HFIN.out hx
end Go.Proofs.YtcnhbodemabbdaaDoor
