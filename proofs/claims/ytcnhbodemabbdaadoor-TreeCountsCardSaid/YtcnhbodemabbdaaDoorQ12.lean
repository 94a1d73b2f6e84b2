/- A region that draws its order, whose operations that change memory stand in one chain: stage for stage; the others only yield. -/
import Derived.Test.YtcnhbodemabbdaaDoorQ11
import Derived.Test.YtcnhbodemabbdaaDoorQ06
import Derived.Test.YtcnhbodemabbdaaDoorQ10
import Derived.Stop.BytesEq
namespace Go.Proofs.YtcnhbodemabbdaaDoor
open Go.RowKit
set_option linter.unusedVariables false

/-- What holds in the midst of the region: ps: what yields (operation, slot, value); cs: the chain (operation, slot); W: what holds of memory behind each stage, given what the chain has yielded. -/
structure CInv (D : List Nat) (a0 : Act) (ps : List (Nat × Nat × Value)) (cs : List (Nat × Option Nat)) (W : List Value → World → Prop) (f : Nat → Bool) (a : Act) (w : World) : Prop where
  agree : Agree D a0 a
  vals : ∀ p ∈ ps, f p.1 = true → a.eval (.tmp p.2.1) = p.2.2
  st : ∃ xs : List Value, W xs w ∧ (∀ j c d, cs[j]? = some (c, d) → f c = decide (j < xs.length)) ∧ (∀ j c t, cs[j]? = some (c, some t) → j < xs.length → a.eval (.tmp t) = xs.getD j undef) ∧ xs.length ≤ cs.length

/-- The tables, checked by the kernel: a yield's and a link's slot is nobody else's. -/
def psTab (D : List Nat) (ps : List (Nat × Nat × Value)) (cs : List (Nat × Option Nat)) (i d : Nat) : Bool :=
  D.contains d && (ps.all fun p => (p.1 == i) == (p.2.1 == d)) && (cs.all fun c => c.1 != i && c.2 != some d)
def csTab (D : List Nat) (ps : List (Nat × Nat × Value)) (cs : List (Nat × Option Nat)) (i j : Nat) (d : Option Nat) : Bool :=
  (match d with | some d => D.contains d | none => true) && (ps.all fun p => p.1 != i && some p.2.1 != d) && ((List.range cs.length).all fun k => k == j || (match cs[k]? with | some c => c.1 != i && (c.2 != d || d == none) | none => true))

section
variable {P : Program} {ops : Array Oper} {Q : Exit → Act → World → Prop} {D : List Nat} {a0 a : Act} {w : World} {ps : List (Nat × Nat × Value)} {cs : List (Nat × Option Nat)} {W : List Value → World → Prop} {f : Nat → Bool} {i : Nat} {o : Oper}

theorem CInv.start (h : W [] w) : CInv D a0 ps cs W (fun _ => false) a0 w :=
  ⟨Agree.refl _ _, fun _ _ h => (by cases h), [], h, fun _ _ _ _ => rfl, fun _ _ _ _ h => (by cases h), Nat.zero_le _⟩
theorem CInv.at_ (h : CInv D a0 ps cs W f a w) (j : Nat) {i d : Nat} {v : Value} (hj : ps[j]? = some (i, d, v)) (hf : f i = true) : a.eval (.tmp d) = v :=
  h.vals (i, d, v) (List.mem_of_getElem? hj) hf
theorem CInv.att (h : CInv D a0 ps cs W f a w) (j : Nat) {i d : Nat} {v : Value} (hj : ps[j]? = some (i, d, v)) (hf : f i = true) : a.tmps[d]?.getD undef = v := by
  have := h.at_ j hj hf
  simp only [Act.eval, Array.getD_eq_getD_getElem?] at this
  exact this

theorem CInv.val (h : CInv D a0 ps cs W f a w) (d : Nat) (hdl : d < a0.tmps.size)
    (ht : psTab D ps cs i d = true) (v : Value) (hv : ps.filter (·.1 == i) = [(i, d, v)]) : CInv D a0 ps cs W (upd f i) (a.put (some d) v) w := by
  simp only [psTab, Bool.and_eq_true] at ht
  obtain ⟨⟨t1, t2⟩, t3⟩ := ht
  obtain ⟨xs, hW, h1, h2, h3⟩ := h.st
  have hc : ∀ j c d', cs[j]? = some (c, d') → c ≠ i ∧ d' ≠ some d := fun j c d' hj => by
    have := List.all_eq_true.1 t3 _ (List.mem_of_getElem? hj)
    simpa using this
  refine ⟨h.agree.put (by simpa using t1) v, ?_, xs, hW, fun j c d' hj => ?_, fun j c t hj hlt => ?_, h3⟩
  · intro p hp hpf
    have q1 := List.all_eq_true.1 t2 p hp
    by_cases hpi : p.1 = i
    · have hm : p ∈ ps.filter (·.1 == i) := List.mem_filter.2 ⟨hp, by simpa using hpi⟩
      rw [hv, List.mem_singleton] at hm
      rw [hm]
      exact eval_put_eq (by rw [h.agree.2.1]; exact hdl)
    · have q3 : p.2.1 ≠ d := fun e => by
        rw [e] at q1
        simp [hpi] at q1
      rw [upd_ne f hpi] at hpf
      rw [eval_put_ne q3]
      exact h.vals p hp hpf
  · rw [upd_ne f (hc j c d' hj).1]
    exact h1 j c d' hj
  · rw [eval_put_ne fun e => (hc j c _ hj).2 (by rw [e])]
    exact h2 j c t hj hlt
/-- An operation that only yields a value known ahead. -/
theorem CInv.yield (h : CInv D a0 ps cs W f a w) (ho : ops[i]? = some o) (hgd : o.guard = none) (d : Nat) (hod : o.dst = some d) (hdl : d < a0.tmps.size)
    (ht : psTab D ps cs i d = true) (v : Value) (hv : ps.filter (·.1 == i) = [(i, d, v)]) (hrun : (execOp a.eval o).run P w = .ok (.value v) w) : wpOp P ops Q i (CInv D a0 ps cs W (upd f i)) a w := by
  refine wpOp_of ho hgd (wp_yield hrun ?_)
  rw [hod]
  exact h.val d hdl ht v hv
/-- A call that only looks, and yields a value known ahead. -/
theorem CInv.look (h : CInv D a0 ps cs W f a w) (ho : ops[i]? = some o) (hgd : o.guard = none) (d : Nat) (hod : o.dst = some d) (hdl : d < a0.tmps.size)
    (ht : psTab D ps cs i d = true) (v : Value) (hv : ps.filter (·.1 == i) = [(i, d, v)]) (F : FuncId) (xs : Array Operand) (ts : Array TypeId) (args : Array Value) (hop : o.op = .call { callee := .value (.func F), args := xs, argTypes := ts })
    (hF : (P.funcs[F]?).map (fun fn => (fn.name == "runtime.NumGoroutine", fn.body.isNone)) = some (false, false)) (ha : xs.map a.eval = args)
    (hc : Calls P F args w fun e w' => e = .returned v ∧ w = w') : wpOp P ops Q i (CInv D a0 ps cs W (upd f i)) a w := by
  refine wpOp_of ho hgd (wp_call F xs ts args hop hF ha (hc.mono ?_))
  rintro e w' ⟨rfl, rfl⟩
  refine ⟨v, rfl, ?_⟩
  rw [hod]
  exact h.val d hdl ht v hv
/-- What the chain has yielded by now. -/
theorem CInv.got (h : CInv D a0 ps cs W f a w) (j : Nat) {c t : Nat} (hj : cs[j]? = some (c, some t)) (hf : f c = true) : ∃ xs : List Value, W xs w ∧ j < xs.length ∧ xs.length ≤ cs.length ∧ a.eval (.tmp t) = xs.getD j undef := by
  obtain ⟨xs, hW, h1, h2, h3⟩ := h.st
  have e := h1 j c _ hj
  rw [hf] at e
  have hlt := of_decide_eq_true e.symm
  exact ⟨xs, hW, hlt, h3, h2 j c t hj hlt⟩

/-- The chain's next link. -/
theorem CInv.link (h : CInv D a0 ps cs W f a w) (hfi : f i = false) (ho : ops[i]? = some o) (hgd : o.guard = none) (j : Nat) (d : Option Nat) (hod : o.dst = d) (hj : cs[j]? = some (i, d)) (hdl : ∀ t, d = some t → t < a0.tmps.size)
    (ht : csTab D ps cs i j d = true) (hprev : ∀ k c d', k + 1 = j → cs[k]? = some (c, d') → f c = true)
    (hwp : ∀ xs, xs.length = j → W xs w → (∀ k c t, cs[k]? = some (c, some t) → k < j → a.eval (.tmp t) = xs.getD k undef) → o.wp P a w (fun a' w' => ∃ v, a' = a.put d v ∧ W (xs ++ [v]) w') Q) :
    wpOp P ops Q i (CInv D a0 ps cs W (upd f i)) a w := by
  simp only [csTab, Bool.and_eq_true] at ht
  obtain ⟨⟨t1, t2⟩, t3⟩ := ht
  obtain ⟨xs, hW, h1, h2, h3⟩ := h.st
  have hlen : xs.length = j := by
    have e1 := h1 j i d hj
    rw [hfi] at e1
    have e2 : ¬ j < xs.length := of_decide_eq_false e1.symm
    cases j with
    | zero => omega
    | succ k =>
      have hlt : k + 1 < cs.length := (List.getElem?_eq_some_iff.1 hj).1
      have hk : cs[k]? = some (cs[k]'(by omega)) := List.getElem?_eq_getElem (by omega)
      have e3 := h1 k _ _ hk
      rw [hprev k _ _ rfl hk] at e3
      have e4 : k < xs.length := of_decide_eq_true e3.symm
      omega
  have hoth : ∀ k c d', cs[k]? = some (c, d') → k ≠ j → c ≠ i ∧ (d' ≠ d ∨ d = none) := fun k c d' hk hne => by
    have hlt := (List.getElem?_eq_some_iff.1 hk).1
    have := List.all_eq_true.1 t3 k (List.mem_range.2 hlt)
    rw [hk] at this
    simpa [hne] using this
  refine wpOp_of ho hgd (Oper.wp_mono ?_ (hwp xs hlen hW fun k c t hk hlt => h2 k c t hk (by omega)))
  rintro a' w' ⟨v, rfl, hW'⟩
  have hjl : j < cs.length := (List.getElem?_eq_some_iff.1 hj).1
  refine ⟨?_, ?_, xs ++ [v], hW', fun k c d' hk => ?_, fun k c t hk hlt => ?_, by rw [List.length_append, List.length_singleton]; omega⟩
  · cases d with
    | none => exact h.agree
    | some t => exact h.agree.put (by simpa using t1) v
  · intro p hp hpf
    have q1 := List.all_eq_true.1 t2 p hp
    simp only [Bool.and_eq_true, bne_iff_ne] at q1
    rw [upd_ne f q1.1] at hpf
    rw [eval_put_slot q1.2]
    exact h.vals p hp hpf
  · rw [List.length_append, List.length_singleton]
    by_cases hkj : k = j
    · subst hkj
      rw [hj] at hk
      cases hk
      rw [upd_eq]
      exact (decide_eq_true (by omega)).symm
    · rw [upd_ne f (hoth k c d' hk hkj).1, h1 k c d' hk, decide_eq_decide]
      omega
  · rw [List.length_append, List.length_singleton] at hlt
    by_cases hkj : k = j
    · subst hkj
      rw [hj] at hk
      cases hk
      rw [List.getD_eq_getElem?_getD, List.getElem?_append_right (by omega), hlen]
      simp only [Nat.sub_self, List.getElem?_cons_zero, Option.getD_some]
      exact eval_put_eq (by rw [h.agree.2.1]; exact hdl t rfl)
    · have hne : some t ≠ d := by
        rcases (hoth k c (some t) hk hkj).2 with e | e
        · exact e
        · rw [e]; simp
      rw [eval_put_slot hne, h2 k c t hk (by omega), List.getD_eq_getElem?_getD, List.getD_eq_getElem?_getD, List.getElem?_append_left (by omega)]
/-- All has come up. -/
theorem CInv.done (h : CInv D a0 ps cs W f a w) (hall : ∀ c ∈ cs, f c.1 = true) : ∃ xs, xs.length = cs.length ∧ W xs w ∧ ∀ j c t, cs[j]? = some (c, some t) → a.eval (.tmp t) = xs.getD j undef := by
  obtain ⟨xs, hW, h1, h2, h3⟩ := h.st
  have hl : xs.length = cs.length := by
    refine Nat.le_antisymm h3 (Nat.le_of_not_lt fun hlt => ?_)
    have hk : cs[xs.length]? = some (cs[xs.length]) := List.getElem?_eq_getElem hlt
    have e : f (cs[xs.length]).1 = decide (xs.length < xs.length) := h1 _ _ _ hk
    rw [hall _ (List.getElem_mem hlt)] at e
    have := of_decide_eq_true e.symm
    omega
  exact ⟨xs, hl, hW, fun j c t hj => h2 j c t hj (by rw [hl]; exact (List.getElem?_eq_some_iff.1 hj).1)⟩
end
end Go.Proofs.YtcnhbodemabbdaaDoor
/- Names compared; a name in memory. -/
namespace Go.Proofs.YtcnhbodemabbdaaDoor
open Go.RowKit
set_option linter.unusedVariables false

/-- A name as the model's value. -/
def idv (b : List UInt8) : Value := .agg (bv b).toArray
theorem size_u8 (w : World) : (sizeOf 5).run Tryd.prog w = .ok 1 w := by go_simp
theorem id_held : Tryd.prog.stoodInHeld 27 = false := by kernel_rfl
theorem id_under : Tryd.prog.underlying 27 = some (.struct (Tryd.prog.fieldsOf 27)) := by
  unfold Program.fieldsOf
  rw [Tryd.underlying27]
theorem id_fields : (Tryd.prog.fieldsOf 27).toList.map (fun f => (f.name, f.type, f.offset)) = [("Kind", 5, 0), ("Sum", 25, 1)] := by kernel_rfl
theorem size_sum (w : World) : (sizeOf 25).run Tryd.prog w = .ok 32 w := by go_simp
theorem kind_name {f : Field} (n0 : f.name = "Kind") : ¬ f.name = "_" := by rw [n0]; decide
theorem sum_name {f : Field} (n0 : f.name = "Sum") : ¬ f.name = "_" := by rw [n0]; decide
theorem two_fields {l : List Field} (hf : l.map (fun f => (f.name, f.type, f.offset)) = [("Kind", 5, 0), ("Sum", 25, 1)]) : ∃ f0 f1, l = [f0, f1] := by
  have h := congrArg List.length hf
  rw [List.length_map] at h
  rcases l with _ | ⟨f0, _ | ⟨f1, _ | ⟨f2, l⟩⟩⟩
  · cases h
  · cases h
  · exact ⟨f0, f1, rfl⟩
  · simp at h
theorem id_equal_d (d : Nat) (a b : List UInt8) (ha : a.length = 33) (hb : b.length = 33) (w : World) : (Op.equalIn (d + 3) 27 (.agg (bv a).toArray) (.agg (bv b).toArray)).run Tryd.prog w = .ok (a == b) w := by
  obtain ⟨x, xs, rfl⟩ : ∃ x xs, a = x :: xs := by cases a with | nil => cases ha | cons x xs => exact ⟨x, xs, rfl⟩
  obtain ⟨y, ys, rfl⟩ : ∃ y ys, b = y :: ys := by cases b with | nil => cases hb | cons y ys => exact ⟨y, ys, rfl⟩
  have hxs : xs.length = 32 := by simpa using ha
  have hys : ys.length = 32 := by simpa using hb
  have h2 := run_equalIn_bytes (P := Tryd.prog) w d 25 5 32 Tryd.underlying25 Tryd.underlying5 size_u8 xs ys hxs hys
  have px : ∀ (z : UInt8) (zs : List UInt8), zs.length = 32 → (part 25 (bv (z :: zs)).toArray 1).run Tryd.prog w = .ok (.agg (zs.map Extern.Stop.cell).toArray) w := by
    intro z zs hz
    have e : (bv (z :: zs)).toArray.extract 1 (1 + 32) = (zs.map Extern.Stop.cell).toArray := by
      apply Array.ext'
      rw [Array.toList_extract, List.toList_toArray, List.toList_toArray, List.extract_eq_drop_take']
      show ((Value.int .u8 z.toNat :: bv zs).take 33).drop 1 = zs.map Extern.Stop.cell
      rw [List.take_succ_cons, List.drop_succ_cons, List.drop_zero, List.take_of_length_le (by rw [bv_length]; omega)]
      rfl
    have hsz := size_sum w
    simp only [part, isAgg, Sem.run_bind, run_underlying Tryd.underlying25, Result.andThen_ok, Sem.run_pure, if_true, hsz, e]
  have p0 : ∀ (z : UInt8) (zs : List UInt8), (part 5 (bv (z :: zs)).toArray 0).run Tryd.prog w = .ok (.int .u8 z.toNat) w := by
    intro z zs
    simp [part, isAgg, run_underlying Tryd.underlying5, bv]
  have hn : ((x.toNat : Int) == (y.toNat : Int)) = (x == y) := by
    rw [Bool.eq_iff_iff]
    simp [← UInt8.toNat_inj]
    omega
  rw [run_equalIn_struct w (d + 2) 27 _ _ id_under id_held]
  have hf := id_fields
  generalize (Tryd.prog.fieldsOf 27).toList = l at hf ⊢
  obtain ⟨f0, f1, rfl⟩ := two_fields hf
  · simp only [List.map_cons, List.map_nil, List.cons.injEq, Prod.mk.injEq, and_true] at hf
    obtain ⟨⟨n0, t0, o0⟩, ⟨n1, t1, o1⟩⟩ := hf
    have k0 : ¬ f0.name = "_" := kind_name n0
    have k1 : ¬ f1.name = "_" := sum_name n1
    have hi := run_equalIn_int (P := Tryd.prog) w (d + 1) 5 .u8 .u8 (x.toNat : Int) (y.toNat : Int) Tryd.underlying5
    simp only [Op.eqFields, ne_eq, k0, k1, not_false_eq_true, if_true, t0, t1, o0, o1, Sem.run_bind, p0, hi, hn, Result.andThen_ok]
    have q1 := px x xs hxs
    have q2 := px y ys hys
    rw [List.cons_beq_cons]
    generalize (x == y) = z
    cases z
    · rw [if_pos (by decide), Sem.run_pure, Bool.false_and]
    · rw [if_neg (by decide), Sem.run_bind, q1, Result.andThen_ok, Sem.run_bind, q2, Result.andThen_ok, Sem.run_bind, h2, Result.andThen_ok, Bool.true_and]
      generalize (xs == ys) = z
      cases z
      · rw [if_pos (by decide), Sem.run_pure]
      · rw [if_neg (by decide), Sem.run_pure]
theorem id_equal (a b : List UInt8) (ha : a.length = 33) (hb : b.length = 33) (w : World) : (Op.equalIn 10000 27 (.agg (bv a).toArray) (.agg (bv b).toArray)).run Tryd.prog w = .ok (a == b) w := id_equal_d 9997 a b ha hb w
theorem str_beq (a b : List UInt8) : ((bstr a).toList == (bstr b).toList) = decide (a = b) := by
  rw [ByteArray.toList_eq, ByteArray.toList_eq, bstr_data, bstr_data]
  by_cases h : a = b
  · rw [decide_eq_true h, beq_iff_eq]; exact h
  · rw [decide_eq_false h, beq_eq_false_iff_ne]; exact h
theorem str_beq_ne {a b : List UInt8} (h : a ≠ b) : ((bstr a).toList == (bstr b).toList) = false := by rw [str_beq, decide_eq_false h]
theorem str_beq_eq (a : List UInt8) : ((bstr a).toList == (bstr a).toList) = true := by rw [str_beq, decide_eq_true rfl]
theorem id_info : (Tryd.prog.info? 27).map (·.size) = some 33 := by kernel_rfl
section
variable (w : World) (p : Addr)
theorem f_id0 : (Instr.fieldAt 27 (.pointer (some p)) 0).run Tryd.prog w = .ok (.pointer (some p)) w := by go_simp
end
section
variable {w : World} {p : Addr}
theorem ld_id {b : List UInt8} (hb : b.length = 33) (h : Cells w (some p) (bv b)) : (Instr.loadAt 27 (.pointer (some p))).run Tryd.prog w = .ok (.agg (bv b).toArray) w :=
  run_loadAt_row w p 27 (bv b) _ (fun j v hv => by obtain ⟨x, hx, hc⟩ := h j v hv; cases hx; exact hc) Tryd.underlying27 rfl (by rw [id_info, bv_length, hb])
theorem ld_ids {a : Option Addr} {n c : Nat} (h : w.cell? p = some (.slice a n c)) : (Instr.loadAt 37 (.pointer (some p))).run Tryd.prog w = .ok (.slice a n c) w := by go_simp
theorem ix_id {a : Addr} {n c i : Nat} {z : Int} (hz : z = (i : Int)) (h : i < n) : (Instr.indexAt 37 (.slice (some a) n c) (.int .i64 z)).run Tryd.prog w = .ok (.pointer (some (a.add (i * 33)))) w := by
  subst hz
  have h1 : (0 : Int) ≤ (i : Int) := by omega
  have h2 : (i : Int) < (n : Int) := by omega
  go_simp
end
end Go.Proofs.YtcnhbodemabbdaaDoor
