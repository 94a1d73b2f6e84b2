/- The ledger's entries (rows, structs' values, structs' memory), and what each kind of operation does to it. -/
import Derived.Test.YtcnhbodemabbdaaDoorQ14
import Derived.Test.YtcnhbodemabbdaaDoorQ01
import Derived.Great.BuildSlice
namespace Go.Proofs.YtcnhbodemabbdaaDoor
open Go.RowKit
set_option linter.unusedVariables false

/-- A row that a slot owns. -/
def entRow (B born dies slot : Nat) (t : TypeId) (sz n : Nat) (xs : List Value) : Ent := ⟨born, dies, slot, fun w v => w.ownsRow B t sz v n xs, fun _ v => v.ownBlock.toList⟩
theorem entRow_ok (B born dies slot : Nat) (t : TypeId) (sz n : Nat) (xs : List Value) : (entRow B born dies slot t sz n xs).OK B :=
  ⟨fun {w w' v row} h hg hr => ⟨World.ownsRow.kept h hg (by
      cases hv : v.ownBlock with
      | none => exact .inl rfl
      | some k =>
        refine .inr fun e => hr k e.symm ?_
        show k ∈ v.ownBlock.toList
        rw [hv]; simp), rfl⟩,
   fun {w v k} h hk => own_lt h (by
      have : k ∈ v.ownBlock.toList := hk
      simpa using this)⟩

/-- A struct's fields: a value that is known, or a row that is owned. -/
inductive Fld where
  | val (v : Value)
  | row (t : TypeId) (sz n : Nat) (xs : List Value)
def fldOK (B : Nat) (w : World) : Fld → Value → Prop
  | .val c, v => v = c
  | .row t sz n xs, v => w.ownsRow B t sz v n xs
def fldsOK (B : Nat) (w : World) : List Fld → List Value → Prop
  | [], [] => True
  | f :: fs, v :: vs => fldOK B w f v ∧ fldsOK B w fs vs
  | _, _ => False
def fldsFoot : List Fld → List Value → List Nat
  | .row .. :: fs, v :: vs => v.ownBlock.toList ++ fldsFoot fs vs
  | .val _ :: fs, _ :: vs => fldsFoot fs vs
  | _, _ => []
theorem fldsOK_kept {B : Nat} {w w' : World} {row : Option Nat} (hg : w.grownBy w' row) : ∀ (fs : List Fld) (vs : List Value), fldsOK B w fs vs → (∀ k, row = some k → k ∉ fldsFoot fs vs) → fldsOK B w' fs vs
  | [], [], _, _ => trivial
  | f :: fs, v :: vs, h, hr => by
    obtain ⟨h1, h2⟩ := h
    cases f with
    | val c => exact ⟨h1, fldsOK_kept hg fs vs h2 hr⟩
    | row t sz n xs =>
      refine ⟨World.ownsRow.kept h1 hg ?_, fldsOK_kept hg fs vs h2 fun k hk hm => hr k hk (List.mem_append_right _ hm)⟩
      cases hv : v.ownBlock with
      | none => exact .inl rfl
      | some k =>
        refine .inr fun e => hr k e.symm (List.mem_append_left _ ?_)
        rw [hv]; simp
  | [], _ :: _, h, _ => h.elim
  | _ :: _, [], h, _ => h.elim
theorem fldsOK_lt {B : Nat} {w : World} {k : Nat} : ∀ (fs : List Fld) (vs : List Value), fldsOK B w fs vs → k ∈ fldsFoot fs vs → B ≤ k ∧ k < w.heap.size
  | [], [], _, hk => by cases hk
  | f :: fs, v :: vs, h, hk => by
    obtain ⟨h1, h2⟩ := h
    cases f with
    | val c => exact fldsOK_lt fs vs h2 hk
    | row t sz n xs =>
      rcases List.mem_append.1 hk with hk | hk
      · exact own_lt h1 (by simpa using hk)
      · exact fldsOK_lt fs vs h2 hk
  | [], _ :: _, h, _ => h.elim
  | _ :: _, [], h, _ => h.elim

/-- A struct's value in a slot, its rows owned. -/
def entAgg (B born dies slot : Nat) (fs : List Fld) : Ent :=
  ⟨born, dies, slot, fun w v => ∃ vs : Array Value, v = .agg vs ∧ fldsOK B w fs vs.toList, fun _ v => match v with | .agg vs => fldsFoot fs vs.toList | _ => []⟩
theorem entAgg_ok (B born dies slot : Nat) (fs : List Fld) : (entAgg B born dies slot fs).OK B :=
  ⟨fun {w w' v row} h hg hr => by
      obtain ⟨vs, rfl, hf⟩ := h
      exact ⟨⟨vs, rfl, fldsOK_kept hg fs vs.toList hf hr⟩, rfl⟩,
   fun {w v k} h hk => by
      obtain ⟨vs, rfl, hf⟩ := h
      exact fldsOK_lt fs vs.toList hf hk⟩

/-- A struct's memory behind a pointer in a slot, its rows owned. -/
def boxFoot (fs : List Fld) (w : World) : Value → List Nat
  | .pointer (some p) => p.block :: (match w.heap[p.block]? with | some (.cells cs _ _) => fldsFoot fs cs.toList | _ => [])
  | _ => []
def entBox (B born dies slot : Nat) (T : TypeId) (fs : List Fld) : Ent :=
  ⟨born, dies, slot, fun w v => ∃ (g : Nat) (vs : Array Value), v = .pointer (some ⟨g, 0, none⟩) ∧ B ≤ g ∧ Blk w g T vs ∧ fldsOK B w fs vs.toList, boxFoot fs⟩
theorem boxFoot_at {fs : List Fld} {w : World} {g : Nat} {T : TypeId} {vs : Array Value} (h : Blk w g T vs) : boxFoot fs w (.pointer (some ⟨g, 0, none⟩)) = g :: fldsFoot fs vs.toList := by
  unfold boxFoot
  have : w.heap[g]? = some (.cells vs T (0, 0)) := h
  simp only [this]
theorem entBox_ok (B born dies slot : Nat) (T : TypeId) (fs : List Fld) : (entBox B born dies slot T fs).OK B :=
  ⟨fun {w w' v row} h hg hr => by
      obtain ⟨g, vs, rfl, hB, hb, hf⟩ := h
      have hr' : ∀ k, row = some k → k ∉ g :: fldsFoot fs vs.toList := fun k hk => by
        have := hr k hk
        rwa [show (entBox B born dies slot T fs).foot w (.pointer (some ⟨g, 0, none⟩)) = _ from boxFoot_at hb] at this
      have hb' : Blk w' g T vs := hb.grown hg fun e => hr' g e.symm (List.mem_cons_self ..)
      exact ⟨⟨g, vs, rfl, hB, hb', fldsOK_kept hg fs vs.toList hf fun k hk hm => hr' k hk (List.mem_cons_of_mem _ hm)⟩, (boxFoot_at hb').trans (boxFoot_at hb).symm⟩,
   fun {w v k} h hk => by
      obtain ⟨g, vs, rfl, hB, hb, hf⟩ := h
      rw [show (entBox B born dies slot T fs).foot w (.pointer (some ⟨g, 0, none⟩)) = _ from boxFoot_at hb] at hk
      rcases List.mem_cons.1 hk with rfl | hk
      · exact ⟨hB, hb.lt⟩
      · exact fldsOK_lt fs vs.toList hf hk⟩

section
variable {P : Program} {ops : Array Oper} {Q : Exit → Act → World → Prop} {D : List Nat} {a0 a : Act} {w0 w : World} {ps : List (Nat × Nat × Value)} {E : List Ent} {f : Nat → Bool} {i : Nat} {o : Oper}

/-- What the kernel checks of an operation that is no yield: its slot, its entries. -/
def rowTab (D : List Nat) (ps : List (Nat × Nat × Value)) (E : List Ent) (i : Nat) (d : Option Nat) : Bool :=
  (match d with | some d => D.contains d | none => true) && (E.all fun e => e.born == i || e.dies == i || some e.slot != d) && (ps.all fun p => p.1 != i && (some p.2.1 != d))
theorem rowTab_slot {D : List Nat} {ps : List (Nat × Nat × Value)} {E : List Ent} {i : Nat} {d : Option Nat} (h : (E.all fun e => e.born == i || e.dies == i || some e.slot != d) = true) (f : Nat → Bool) : ∀ e ∈ E, e.act f → e.born ≠ i → e.dies ≠ i → some e.slot ≠ d := by
  intro e he _ h1 h2
  have h3 := List.all_eq_true.1 h e he
  simpa [h1, h2] using h3
def valTab (D : List Nat) (ps : List (Nat × Nat × Value)) (E : List Ent) (i d : Nat) : Bool :=
  D.contains d && (E.all fun e => e.born != i && e.dies != i && e.slot != d) && (ps.all fun p => (p.1 == i) == (p.2.1 == d))
def diesTab (E : List Ent) : Bool := E.all fun e => E.all fun e' => e.born != e'.born || e.dies == e'.dies

theorem wp_val {K : Act → World → Prop} {s : Sem Value} {v : Value} {w' : World} (hs : execOp a.eval o = (do pure (Next.value (← s)))) (hrun : s.run P w = .ok v w') (h : K (a.put o.dst v) w') : o.wp P a w K Q := by
  unfold Oper.wp
  rw [hs]
  simp only [Sem.run_bind, hrun, Result.andThen_ok, Sem.run_pure]
  exact h

theorem wp_yield {K : Act → World → Prop} {v : Value} {w' : World} (hrun : (execOp a.eval o).run P w = .ok (.value v) w') (h : K (a.put o.dst v) w') : o.wp P a w K Q := by
  unfold Oper.wp
  rw [hrun]
  exact h
/-- An operation that only yields a value known ahead. -/
theorem RInv.yield (h : RInv D a0 w0 ps E f a w) (hok : ∀ e ∈ E, e.OK w0.heap.size) (hb : diesTab E = true) (hfi : f i = false) (ho : ops[i]? = some o) (hgd : o.guard = none) (d : Nat) (hod : o.dst = some d) (hdl : d < a0.tmps.size)
    (ht : valTab D ps E i d = true) (v : Value) (hv : ps.filter (·.1 == i) = [(i, d, v)]) (hrun : (execOp a.eval o).run P w = .ok (.value v) w) : wpOp P ops Q i (RInv D a0 w0 ps E (upd f i)) a w := by
  refine wpOp_of ho hgd (wp_yield hrun ?_)
  rw [hod]
  simp only [valTab, Bool.and_eq_true] at ht
  obtain ⟨⟨t1, t2⟩, t3⟩ := ht
  have h2 : ∀ e ∈ E, e.born ≠ i ∧ e.dies ≠ i ∧ e.slot ≠ d := fun e he => by
    have := List.all_eq_true.1 t2 e he
    simp only [Bool.and_eq_true, bne_iff_ne] at this
    exact ⟨this.1.1, this.1.2, this.2⟩
  have hv' : ∀ p ∈ ps, p.1 = i → p.2.2 = v := fun p hp hpi => by
    have hm : p ∈ ps.filter (·.1 == i) := List.mem_filter.2 ⟨hp, by simpa using hpi⟩
    rw [hv, List.mem_singleton] at hm
    rw [hm]
  refine h.val hok hb d t1 hdl v hfi ?_ t3 hv' ?_ ?_
  · intro e he _ _ _ e'
    exact (h2 e he).2.2 (Option.some.inj e')
  · exact List.filter_eq_nil_iff.2 fun e he => by simpa using (h2 e he).1
  · exact List.filter_eq_nil_iff.2 fun e he => by simpa using (h2 e he).2.1

theorem RInv.value (h : RInv D a0 w0 ps E f a w) (hok : ∀ e ∈ E, e.OK w0.heap.size) (hb : diesTab E = true) (hfi : f i = false) (ho : ops[i]? = some o) (hgd : o.guard = none) (d : Nat) (hod : o.dst = some d) (hdl : d < a0.tmps.size)
    (ht : valTab D ps E i d = true) (v : Value) (hv : ps.filter (·.1 == i) = [(i, d, v)]) {s : Sem Value} (hs : execOp a.eval o = (do pure (Next.value (← s)))) (hrun : s.run P w = .ok v w) : wpOp P ops Q i (RInv D a0 w0 ps E (upd f i)) a w := by
  refine wpOp_of ho hgd (wp_val hs hrun ?_)
  rw [hod]
  simp only [valTab, Bool.and_eq_true] at ht
  obtain ⟨⟨t1, t2⟩, t3⟩ := ht
  have h2 : ∀ e ∈ E, e.born ≠ i ∧ e.dies ≠ i ∧ e.slot ≠ d := fun e he => by
    have := List.all_eq_true.1 t2 e he
    simp only [Bool.and_eq_true, bne_iff_ne] at this
    exact ⟨this.1.1, this.1.2, this.2⟩
  have hv' : ∀ p ∈ ps, p.1 = i → p.2.2 = v := fun p hp hpi => by
    have hm : p ∈ ps.filter (·.1 == i) := List.mem_filter.2 ⟨hp, by simpa using hpi⟩
    rw [hv, List.mem_singleton] at hm
    rw [hm]
  refine h.val hok hb d t1 hdl v hfi ?_ t3 hv' ?_ ?_
  · intro e he _ _ _ e'
    exact (h2 e he).2.2 (Option.some.inj e')
  · exact List.filter_eq_nil_iff.2 fun e he => by simpa using (h2 e he).1
  · exact List.filter_eq_nil_iff.2 fun e he => by simpa using (h2 e he).2.1

theorem RInv.move (h : RInv D a0 w0 ps E f a w) (hok : ∀ e ∈ E, e.OK w0.heap.size) (hb : diesTab E = true) (hfi : f i = false) (ho : ops[i]? = some o) (hgd : o.guard = none) (d : Nat) (hod : o.dst = some d) (hdl : d < a0.tmps.size)
    (ht : valTab D ps E i d = true) (v : Value) (hv : ps.filter (·.1 == i) = [(i, d, v)]) (x : Operand) (hop : o.op = .move x) (hx : a.eval x = v) : wpOp P ops Q i (RInv D a0 w0 ps E (upd f i)) a w := by
  refine h.value hok hb hfi ho hgd d hod hdl ht v hv (s := Pure.pure v) ?_ ?_
  · unfold execOp
    simp only [hop, hx]
    rfl
  · simp
theorem exec_buildSlice {t : TypeId} {n : Nat} {parts : Array (Nat × Operand)} {ps' : Array (Nat × Value)} {ρ : Operand → Value} (ho : o.op = .buildSlice t n parts) (hp : (parts.map fun (i, x) => (i, ρ x)) = ps') : execOp ρ o = (do pure (Next.value (← Instr.buildSlice t n ps'))) := by
  subst hp
  unfold execOp
  rw [ho]
theorem exec_build {t : TypeId} {parts : Array (Nat × Operand)} {ps' : Array (Nat × Value)} {ρ : Operand → Value} (ho : o.op = .build t parts) (hp : (parts.map fun (i, x) => (i, ρ x)) = ps') : execOp ρ o = (do pure (Next.value (← Instr.build t ps'))) := by
  subst hp
  unfold execOp
  rw [ho]
theorem arr0 {α β : Type} (g : α → β) : (#[] : Array α).map g = #[] := by simp
theorem arr2 {α β : Type} (g : α → β) (x y : α) : (#[x, y] : Array α).map g = #[g x, g y] := by simp
theorem arr4 {α β : Type} (g : α → β) (x y z u : α) : (#[x, y, z, u] : Array α).map g = #[g x, g y, g z, g u] := by simp
theorem arr1 {α β : Type} (g : α → β) (x : α) : (#[x] : Array α).map g = #[g x] := by simp
theorem arr3 {α β : Type} (g : α → β) (x y z : α) : (#[x, y, z] : Array α).map g = #[g x, g y, g z] := by simp

theorem run_call (F : FuncId) (xs : Array Operand) (ts : Array TypeId) (hop : o.op = .call { callee := .value (.func F), args := xs, argTypes := ts }) (hF : (P.funcs[F]?).map (fun fn => (fn.name == "runtime.NumGoroutine", fn.body.isNone)) = some (false, false)) :
    (execOp a.eval o).run P w = .ok (.enter F (xs.map a.eval)) w := by
  cases hfn : P.funcs[F]? with
  | none => rw [hfn] at hF; cases hF
  | some fn =>
    rw [hfn] at hF
    have h1 : (fn.name == "runtime.NumGoroutine") = false := congrArg Prod.fst (Option.some.inj hF)
    have h2 : fn.body.isNone = false := congrArg Prod.snd (Option.some.inj hF)
    have h3 : ¬ fn.name = "runtime.NumGoroutine" := by simpa using h1
    have h4 : ¬ fn.body = none := by
      intro e
      rw [e] at h2
      cases h2
    unfold execOp
    simp [hop, resolve, Deferred.ofValue, invoke, Act.eval, callFunc, hfn, h3, h4]
theorem wp_call {K : Act → World → Prop} (F : FuncId) (xs : Array Operand) (ts : Array TypeId) (args : Array Value) (hop : o.op = .call { callee := .value (.func F), args := xs, argTypes := ts })
    (hF : (P.funcs[F]?).map (fun fn => (fn.name == "runtime.NumGoroutine", fn.body.isNone)) = some (false, false)) (ha : xs.map a.eval = args)
    (h : Calls P F args w fun e w' => ∃ v, e = .returned v ∧ K (a.put o.dst v) w') : o.wp P a w K Q := by
  subst ha
  unfold Oper.wp
  rw [run_call F xs ts hop hF]
  refine Calls.mono h ?_
  rintro e w' ⟨v, rfl, hk⟩
  exact hk
theorem grown_of_ext {w w' : World} (h : Ext w w') : w.grownBy w' none := ⟨h.os, h.tape, h.output, h.size, fun k hk _ => h.block k hk⟩
/-- A call that yields a value known ahead, and makes memory of its own alone. -/
theorem RInv.call (h : RInv D a0 w0 ps E f a w) (hok : ∀ e ∈ E, e.OK w0.heap.size) (hb : diesTab E = true) (hfi : f i = false) (ho : ops[i]? = some o) (hgd : o.guard = none) (d : Nat) (hod : o.dst = some d) (hdl : d < a0.tmps.size)
    (ht : valTab D ps E i d = true) (v : Value) (hv : ps.filter (·.1 == i) = [(i, d, v)]) (F : FuncId) (xs : Array Operand) (ts : Array TypeId) (args : Array Value) (hop : o.op = .call { callee := .value (.func F), args := xs, argTypes := ts })
    (hF : (P.funcs[F]?).map (fun fn => (fn.name == "runtime.NumGoroutine", fn.body.isNone)) = some (false, false)) (ha : xs.map a.eval = args)
    (hc : Calls P F args w fun e w' => e = .returned v ∧ Ext w w') : wpOp P ops Q i (RInv D a0 w0 ps E (upd f i)) a w := by
  refine wpOp_of ho hgd (wp_call F xs ts args hop hF ha (hc.mono ?_))
  rintro e w' ⟨rfl, hx⟩
  refine ⟨v, rfl, ?_⟩
  rw [hod]
  simp only [valTab, Bool.and_eq_true] at ht
  obtain ⟨⟨t1, t2⟩, t3⟩ := ht
  have h2 : ∀ e ∈ E, e.born ≠ i ∧ e.dies ≠ i ∧ e.slot ≠ d := fun e he => by
    have := List.all_eq_true.1 t2 e he
    simp only [Bool.and_eq_true, bne_iff_ne] at this
    exact ⟨this.1.1, this.1.2, this.2⟩
  refine ⟨h.agree.put (by simpa using t1) v, h.ext.trans hx, ?_, h.led.step hok hb i (some d) v (grown_of_ext hx) hfi (fun e he _ _ _ e' => (h2 e he).2.2 (Option.some.inj e')) [] [] ?_ ?_ (fun _ he => by cases he) (fun _ hk => by cases hk) (fun _ he => by cases he)⟩
  · intro p hp hpf
    have h1 := List.all_eq_true.1 t3 p hp
    by_cases hpi : p.1 = i
    · have hm : p ∈ ps.filter (·.1 == i) := List.mem_filter.2 ⟨hp, by simpa using hpi⟩
      rw [hv, List.mem_singleton] at hm
      rw [hm]
      exact eval_put_eq (by rw [h.agree.2.1]; exact hdl)
    · have h3 : p.2.1 ≠ d := fun e => by
        rw [e] at h1
        simp [hpi] at h1
      rw [upd_ne f hpi] at hpf
      rw [eval_put_ne h3]
      exact h.vals p hp hpf
  · exact List.filter_eq_nil_iff.2 fun e he => by simpa using (h2 e he).1
  · exact List.filter_eq_nil_iff.2 fun e he => by simpa using (h2 e he).2.1

/-! Operations under a guard. -/
theorem wanted_none (hgd : o.guard = none) : Region.wanted o (yielded ops a.tmps) = true := by unfold Region.wanted; rw [hgd]
theorem wanted_at {g d' : Nat} {b b' : Bool} (hgd : o.guard = some (g, b)) (hd : (ops[g]?).bind (·.dst) = some d') (hv : a.eval (.tmp d') = .bool b') : Region.wanted o (yielded ops a.tmps) = (b' == b) := by
  have h1 : a.tmps[d']? = some (.bool b') := by
    simp only [Act.eval, Array.getD_eq_getD_getElem?] at hv
    cases h : a.tmps[d']? with
    | none => rw [h] at hv; cases hv
    | some v => rw [h] at hv; exact congrArg some hv
  have h2 : yielded ops a.tmps g = some b' := by
    unfold yielded
    rw [hd]
    simp only [Option.bind_some, h1]
  unfold Region.wanted
  rw [hgd]
  simp only [h2]
  cases b <;> cases b' <;> rfl
theorem wanted_yes {g d' : Nat} {b : Bool} (hgd : o.guard = some (g, b)) (hd : (ops[g]?).bind (·.dst) = some d') (hv : a.eval (.tmp d') = .bool b) : Region.wanted o (yielded ops a.tmps) = true := by
  rw [wanted_at hgd hd hv, beq_self_eq_true]
theorem wanted_not {g d' : Nat} {b b' : Bool} (hgd : o.guard = some (g, b)) (hd : (ops[g]?).bind (·.dst) = some d') (hv : a.eval (.tmp d') = .bool b') (hne : (b' == b) = false) : Region.wanted o (yielded ops a.tmps) = false := by
  rw [wanted_at hgd hd hv, hne]
theorem wpOp_yes {K : Act → World → Prop} (ho : ops[i]? = some o) (hw : Region.wanted o (yielded ops a.tmps) = true) (h : o.wp P a w K Q) : wpOp P ops Q i K a w := by
  unfold wpOp
  rw [ho]
  simp only [hw, if_true]
  exact .inl h
theorem wpOp_no {K : Act → World → Prop} (ho : ops[i]? = some o) (hw : Region.wanted o (yielded ops a.tmps) = false) (h : K (a.put o.dst undef) w) : wpOp P ops Q i K a w := by
  unfold wpOp
  rw [ho]
  simp only [hw, Bool.false_eq_true, if_false]
  exact h
theorem run_of_sem {s : Sem Value} {v : Value} {w' : World} (hs : execOp a.eval o = (do pure (Next.value (← s)))) (hrun : s.run P w = .ok v w') : (execOp a.eval o).run P w = .ok (.value v) w' := by
  rw [hs]
  simp only [Sem.run_bind, hrun, Result.andThen_ok, Sem.run_pure]
/-- Without a ledger: what yields known values, and calls that make memory of their own. -/
theorem RInv.val0 (h : RInv D a0 w0 ps [] f a w) (d : Nat) (hdl : d < a0.tmps.size) (ht : valTab D ps [] i d = true) (v : Value) (hv : ps.filter (·.1 == i) = [(i, d, v)]) {w' : World} (hx : Ext w w') : RInv D a0 w0 ps [] (upd f i) (a.put (some d) v) w' := by
  simp only [valTab, Bool.and_eq_true] at ht
  obtain ⟨⟨t1, _⟩, t3⟩ := ht
  refine ⟨h.agree.put (by simpa using t1) v, h.ext.trans hx, ?_, ⟨fun _ he => (by cases he), fun _ he => (by cases he)⟩⟩
  intro p hp hpf
  have h1 := List.all_eq_true.1 t3 p hp
  by_cases hpi : p.1 = i
  · have hm : p ∈ ps.filter (·.1 == i) := List.mem_filter.2 ⟨hp, by simpa using hpi⟩
    rw [hv, List.mem_singleton] at hm
    rw [hm]
    exact eval_put_eq (by rw [h.agree.2.1]; exact hdl)
  · have h3 : p.2.1 ≠ d := fun e => by
      rw [e] at h1
      simp [hpi] at h1
    rw [upd_ne f hpi] at hpf
    rw [eval_put_ne h3]
    exact h.vals p hp hpf
theorem RInv.yieldW (h : RInv D a0 w0 ps [] f a w) (ho : ops[i]? = some o) (hw : Region.wanted o (yielded ops a.tmps) = true) (d : Nat) (hod : o.dst = some d) (hdl : d < a0.tmps.size)
    (ht : valTab D ps [] i d = true) (v : Value) (hv : ps.filter (·.1 == i) = [(i, d, v)]) (hrun : (execOp a.eval o).run P w = .ok (.value v) w) : wpOp P ops Q i (RInv D a0 w0 ps [] (upd f i)) a w := by
  refine wpOp_yes ho hw (wp_yield hrun ?_)
  rw [hod]
  exact h.val0 d hdl ht v hv (Ext.refl _)
theorem RInv.skip (h : RInv D a0 w0 ps [] f a w) (ho : ops[i]? = some o) (hw : Region.wanted o (yielded ops a.tmps) = false) (d : Nat) (hod : o.dst = some d) (hdl : d < a0.tmps.size)
    (ht : valTab D ps [] i d = true) (hv : ps.filter (·.1 == i) = [(i, d, undef)]) : wpOp P ops Q i (RInv D a0 w0 ps [] (upd f i)) a w := by
  refine wpOp_no ho hw ?_
  rw [hod]
  exact h.val0 d hdl ht undef hv (Ext.refl _)
theorem RInv.callW (h : RInv D a0 w0 ps [] f a w) (ho : ops[i]? = some o) (hw : Region.wanted o (yielded ops a.tmps) = true) (d : Nat) (hod : o.dst = some d) (hdl : d < a0.tmps.size)
    (ht : valTab D ps [] i d = true) (v : Value) (hv : ps.filter (·.1 == i) = [(i, d, v)]) (F : FuncId) (xs : Array Operand) (ts : Array TypeId) (args : Array Value) (hop : o.op = .call { callee := .value (.func F), args := xs, argTypes := ts })
    (hF : (P.funcs[F]?).map (fun fn => (fn.name == "runtime.NumGoroutine", fn.body.isNone)) = some (false, false)) (ha : xs.map a.eval = args)
    (hc : Calls P F args w fun e w' => e = .returned v ∧ Ext w w') : wpOp P ops Q i (RInv D a0 w0 ps [] (upd f i)) a w := by
  refine wpOp_yes ho hw (wp_call F xs ts args hop hF ha (hc.mono ?_))
  rintro e w' ⟨rfl, hx⟩
  refine ⟨v, rfl, ?_⟩
  rw [hod]
  exact h.val0 d hdl ht v hv hx

/-- A literal row. -/
theorem RInv.lit (h : RInv D a0 w0 ps E f a w) (hok : ∀ e ∈ E, e.OK w0.heap.size) (hb : diesTab E = true) (hfi : f i = false) (ho : ops[i]? = some o) (hgd : o.guard = none) (d : Nat) (hod : o.dst = some d) (hdl : d < a0.tmps.size)
    (ht : rowTab D ps E i (some d) = true) (dies : Nat) (t : TypeId) (n : Nat) (C : Array Value) (hN : E.filter (·.born == i) = [entRow w0.heap.size i dies d t 1 n C.toList]) (hM : E.filter (·.dies == i) = [])
    (hn : C.size = n) (hn2 : n ≤ maxLen) {s : Sem Value} (hs : execOp a.eval o = (do pure (Next.value (← s)))) (hrun : s.run P w = .ok (.slice (some ⟨w.heap.size, 0, none⟩) n n) (w.alloc (.cells C t))) : wpOp P ops Q i (RInv D a0 w0 ps E (upd f i)) a w := by
  refine wpOp_of ho hgd (wp_val hs hrun ?_)
  rw [hod]
  simp only [rowTab, Bool.and_eq_true] at ht
  obtain ⟨⟨t1, t2⟩, t3⟩ := ht
  have hev : (a.put (some d) (Value.slice (some ⟨w.heap.size, 0, none⟩) n n)).eval (.tmp d) = Value.slice (some ⟨w.heap.size, 0, none⟩) n n := eval_put_eq (by rw [h.agree.2.1]; exact hdl)
  have hg : w.grownBy (w.alloc (.cells C t)) none := ⟨rfl, rfl, rfl, by simp, fun k hk _ => Below.heap_alloc w _ k hk⟩
  refine h.row hok hb (some d) t1 _ hg hfi (rowTab_slot (D := D) (ps := ps) t2 f) t3 _ _ hN hM (fun _ he => by cases he) (fun _ hk => by cases hk) ?_
  intro e he
  simp only [List.mem_singleton] at he
  subst he
  refine ⟨?_, fun k hk => .inl ?_⟩
  · show (w.alloc _).ownsRow _ _ _ ((a.put _ _).eval (.tmp d)) _ _
    rw [hev]
    exact own_lit C h.ext.size hn2 (by rw [hn, Nat.mul_one])
  · have hk' : k ∈ ((a.put (some d) (Value.slice (some ⟨w.heap.size, 0, none⟩) n n)).eval (.tmp d)).ownBlock.toList := hk
    rw [hev] at hk'
    simp [Value.ownBlock] at hk'
    omega

/-- append onto a row that is owned. -/
theorem RInv.app (h : RInv D a0 w0 ps E f a w) (hok : ∀ e ∈ E, e.OK w0.heap.size) (hb : diesTab E = true) (hfi : f i = false) (ho : ops[i]? = some o) (hgd : o.guard = none) (d : Nat) (hod : o.dst = some d) (hdl : d < a0.tmps.size)
    (ht : rowTab D ps E i (some d) = true) (s : Nat) (x : Operand) (ty : TypeId) (hop : o.op = .call { callee := .builtin .append, args := #[.tmp s, x], argTypes := #[ty, ty] })
    (born dies : Nat) (t : TypeId) (z : Value) (bytes n m : Nat) (xs news : List Value) (M : List Ent)
    (hN : E.filter (·.born == i) = [entRow w0.heap.size i dies d t 1 (n + m) (xs ++ news)]) (hM : E.filter (·.dies == i) = entRow w0.heap.size born i s t 1 n xs :: M) (hact : ∀ e ∈ entRow w0.heap.size born i s t 1 n xs :: M, f e.born = true)
    (hu : P.underlying ty = some (.slice t)) (hi : (P.info? t).map (fun i => (i.zero, i.size, i.bytes)) = some (some z, 1, bytes)) (hz : z.cells.size = 1)
    (A : Option Addr) (c : Nat) (hx : a.eval x = .slice A m c) (hl : news.length = m) (hr : Cells w A news) (h1 : ∀ u ∈ news, u.oneCell' = true)
    (h63 : n + m ≤ maxLen) (hbytes : (n + m) * bytes ≤ 140737488355328) : wpOp P ops Q i (RInv D a0 w0 ps E (upd f i)) a w := by
  simp only [rowTab, Bool.and_eq_true] at ht
  obtain ⟨⟨t1, t2⟩, t3⟩ := ht
  have hmem : entRow w0.heap.size born i s t 1 n xs ∈ E := by
    have : entRow w0.heap.size born i s t 1 n xs ∈ E.filter (·.dies == i) := by rw [hM]; exact List.mem_cons_self ..
    exact (List.mem_filter.1 this).1
  have hown : w.ownsRow w0.heap.size t 1 (a.eval (.tmp s)) n xs := h.led.rows _ hmem ⟨hact _ (List.mem_cons_self ..), hfi⟩
  refine wpOp_of ho hgd (wp_append w (.tmp s) x ty hop w0.heap.size t z 1 bytes hu hi hz (by decide) _ n xs rfl hown A m c news hx (by rw [hl, Nat.mul_one]) hr h1 h63 hbytes h.ext.size ?_)
  intro v' w' ho' hg hfr
  rw [hod]
  have hev : (a.put (some d) v').eval (.tmp d) = v' := eval_put_eq (by rw [h.agree.2.1]; exact hdl)
  refine h.row hok hb (some d) t1 _ hg hfi (rowTab_slot (D := D) (ps := ps) t2 f) t3 _ _ hN hM hact (fun k hk => ⟨_, List.mem_cons_self .., ?_⟩) ?_
  · show k ∈ (a.eval (.tmp s)).ownBlock.toList
    rw [hk]; simp
  · intro e he
    simp only [List.mem_singleton] at he
    subst he
    refine ⟨?_, fun k hk => ?_⟩
    · show w'.ownsRow _ _ _ ((a.put _ _).eval (.tmp d)) _ _
      rw [hev]
      exact ho'
    · have hk' : k ∈ ((a.put (some d) v').eval (.tmp d)).ownBlock.toList := hk
      rw [hev] at hk'
      have hk2 : v'.ownBlock = some k := by simpa using hk'
      rcases hfr with e | e
      · refine .inr ⟨_, List.mem_cons_self .., ?_⟩
        show k ∈ (a.eval (.tmp s)).ownBlock.toList
        rw [← e, hk2]; simp
      · rw [hk2] at e
        injection e with e
        exact .inl (by omega)

/-- A struct's value is put together. -/
theorem RInv.agg (h : RInv D a0 w0 ps E f a w) (hok : ∀ e ∈ E, e.OK w0.heap.size) (hb : diesTab E = true) (hfi : f i = false) (ho : ops[i]? = some o) (hgd : o.guard = none) (d : Nat) (hod : o.dst = some d) (hdl : d < a0.tmps.size)
    (ht : rowTab D ps E i (some d) = true) (dies : Nat) (fs : List Fld) (M : List Ent) (hN : E.filter (·.born == i) = [entAgg w0.heap.size i dies d fs]) (hM : E.filter (·.dies == i) = M) (hact : ∀ e ∈ M, f e.born = true)
    (vs : Array Value) (hf : fldsOK w0.heap.size w fs vs.toList) (hfoot : ∀ k ∈ fldsFoot fs vs.toList, ∃ e ∈ M, k ∈ e.ft a w)
    {s : Sem Value} (hs : execOp a.eval o = (do pure (Next.value (← s)))) (hrun : s.run P w = .ok (.agg vs) w) : wpOp P ops Q i (RInv D a0 w0 ps E (upd f i)) a w := by
  refine wpOp_of ho hgd (wp_val hs hrun ?_)
  rw [hod]
  simp only [rowTab, Bool.and_eq_true] at ht
  obtain ⟨⟨t1, t2⟩, t3⟩ := ht
  have hev : (a.put (some d) (Value.agg vs)).eval (.tmp d) = Value.agg vs := eval_put_eq (by rw [h.agree.2.1]; exact hdl)
  refine h.row hok hb (some d) t1 _ (World.grownBy.refl w none) hfi (rowTab_slot (D := D) (ps := ps) t2 f) t3 _ _ hN hM hact (fun _ hk => by cases hk) ?_
  intro e he
  simp only [List.mem_singleton] at he
  subst he
  refine ⟨⟨vs, hev, hf⟩, fun k hk => .inr (hfoot k ?_)⟩
  have hk' : k ∈ (match (a.put (some d) (Value.agg vs)).eval (.tmp d) with | .agg vs => fldsFoot fs vs.toList | _ => []) := hk
  rw [hev] at hk'
  exact hk'

/-- A struct's memory, new. -/
theorem RInv.alloc (h : RInv D a0 w0 ps E f a w) (hok : ∀ e ∈ E, e.OK w0.heap.size) (hb : diesTab E = true) (hfi : f i = false) (ho : ops[i]? = some o) (hgd : o.guard = none) (d : Nat) (hod : o.dst = some d) (hdl : d < a0.tmps.size)
    (L : List Nat) (hL : ∀ j ∈ L, f j = false) (ht : (D.contains d && (E.all fun e => e.born == i || e.dies == i || e.slot != d || L.contains e.born) && (ps.all fun p => p.1 != i && (some p.2.1 != some d))) = true) (dies : Nat) (T : TypeId) (zs : List Value) (hN : E.filter (·.born == i) = [entBox w0.heap.size i dies d T (zs.map .val)]) (hM : E.filter (·.dies == i) = [])
    {s : Sem Value} (hs : execOp a.eval o = (do pure (Next.value (← s)))) (hrun : s.run P w = .ok (.pointer (some ⟨w.heap.size, 0, none⟩)) (w.alloc (.cells zs.toArray T))) : wpOp P ops Q i (RInv D a0 w0 ps E (upd f i)) a w := by
  refine wpOp_of ho hgd (wp_val hs hrun ?_)
  rw [hod]
  simp only [Bool.and_eq_true] at ht
  obtain ⟨⟨t1, t2⟩, t3⟩ := ht
  have hev : (a.put (some d) (Value.pointer (some ⟨w.heap.size, 0, none⟩))).eval (.tmp d) = Value.pointer (some ⟨w.heap.size, 0, none⟩) := eval_put_eq (by rw [h.agree.2.1]; exact hdl)
  have hg : w.grownBy (w.alloc (.cells zs.toArray T)) none := ⟨rfl, rfl, rfl, by simp, fun k hk _ => Below.heap_alloc w _ k hk⟩
  have hbk : Blk (w.alloc (.cells zs.toArray T)) w.heap.size T zs.toArray := Blk.new w _ _
  have hfl : ∀ (l : List Value), fldsOK w0.heap.size (w.alloc (.cells zs.toArray T)) (l.map .val) l ∧ fldsFoot (l.map .val) l = [] := by
    intro l
    induction l with
    | nil => exact ⟨trivial, rfl⟩
    | cons v l ih => exact ⟨⟨rfl, ih.1⟩, ih.2⟩
  refine h.row hok hb (some d) t1 _ hg hfi ?_ t3 _ _ hN hM (fun _ he => by cases he) (fun _ hk => by cases hk) ?_
  · intro e he hae h1 h2 h3
    have h4 := List.all_eq_true.1 t2 e he
    have h5 : e.slot = d := Option.some.inj h3
    have h6 : e.born ∈ L := by simpa [h1, h2, h5] using h4
    rw [Ent.act, hL _ h6] at hae
    cases hae.1
  intro e he
  simp only [List.mem_singleton] at he
  subst he
  refine ⟨⟨_, _, hev, h.ext.size, hbk, by simpa using (hfl zs).1⟩, fun k hk => .inl ?_⟩
  have hk' : k ∈ boxFoot (zs.map .val) (w.alloc (.cells zs.toArray T)) ((a.put (some d) (Value.pointer (some ⟨w.heap.size, 0, none⟩))).eval (.tmp d)) := hk
  rw [hev, boxFoot_at hbk] at hk'
  have e2 := (hfl zs).2
  simp only [e2, List.mem_singleton] at hk'
  omega

/-- A struct's value is stored into its memory. -/
theorem RInv.store (h : RInv D a0 w0 ps E f a w) (hok : ∀ e ∈ E, e.OK w0.heap.size) (hb : diesTab E = true) (hfi : f i = false) (ho : ops[i]? = some o) (hgd : o.guard = none) (hod : o.dst = none)
    (ht : rowTab D ps E i none = true) (T : TypeId) (sp sx bp bx dies : Nat) (fs0 fs : List Fld) (hop : o.op = .store T (.tmp sp) (.tmp sx))
    (hN : E.filter (·.born == i) = [entBox w0.heap.size i dies sp T fs]) (M : List Ent) (hM : E.filter (·.dies == i) = M) (hm1 : entAgg w0.heap.size bx i sx fs ∈ M) (hm2 : entBox w0.heap.size bp i sp T fs0 ∈ M) (hact : ∀ e ∈ M, f e.born = true)
    (n : Nat) (hfl : fs.length = n) (hfl0 : fs0.length = n) (hi : (P.info? T).map (·.size) = some n) (hone : ∀ c, Fld.val c ∈ fs → c.oneCell' = true) (hne : bp ≠ bx) : wpOp P ops Q i (RInv D a0 w0 ps E (upd f i)) a w := by
  simp only [rowTab, Bool.and_eq_true] at ht
  obtain ⟨⟨t1, t2⟩, t3⟩ := ht
  have hE : ∀ e ∈ M, e ∈ E := fun e he => by rw [← hM] at he; exact (List.mem_filter.1 he).1
  have hlen : ∀ (fs : List Fld) (vs : List Value), fldsOK w0.heap.size w fs vs → vs.length = fs.length := by
    intro fs
    induction fs with
    | nil => intro vs h; cases vs with | nil => rfl | cons _ _ => exact h.elim
    | cons f fs ih => intro vs h; cases vs with | nil => exact h.elim | cons v vs => rw [List.length_cons, List.length_cons, ih vs h.2]
  have hcell : ∀ (fs : List Fld) (vs : List Value), (∀ c, Fld.val c ∈ fs → c.oneCell' = true) → fldsOK w0.heap.size w fs vs → ∀ v ∈ vs, v.oneCell' = true := by
    intro fs
    induction fs with
    | nil => intro vs _ h; cases vs with | nil => intro v hv; cases hv | cons _ _ => exact h.elim
    | cons f fs ih =>
      intro vs hc h
      cases vs with
      | nil => exact h.elim
      | cons v vs =>
        intro u hu
        rcases List.mem_cons.1 hu with rfl | hu
        · have h1 := h.1
          cases f with
          | val c => have h1 : u = c := h1; subst h1; exact hc _ (List.mem_cons_self ..)
          | row t sz n xs =>
            have h1 : w.ownsRow w0.heap.size t sz u n xs := h1
            rcases h1.2 with ⟨rfl, _⟩ | ⟨g, cap, cur, rfl, _⟩ <;> rfl
        · exact ih vs (fun c hc' => hc c (List.mem_cons_of_mem _ hc')) h.2 u hu
  obtain ⟨vs, hvs, hf⟩ := h.led.rows _ (hE _ hm1) ⟨hact _ hm1, hfi⟩
  obtain ⟨g, cs, hp, hB, hbk, hf0⟩ := h.led.rows _ (hE _ hm2) ⟨hact _ hm2, hfi⟩
  have hp : a.eval (.tmp sp) = .pointer (some ⟨g, 0, none⟩) := hp
  have hvs : a.eval (.tmp sx) = .agg vs := hvs
  have l1 := hlen fs vs.toList hf
  have l0 := hlen fs0 cs.toList hf0
  rw [Array.length_toList] at l1 l0
  refine wpOp_of ho hgd (wp_store_blk T (.tmp sp) (.tmp sx) hop hod g vs hp hvs T cs hbk (by omega) (by rw [hi, l0, hfl0]) (hcell fs vs.toList hone hf) ?_)
  intro w' hb' hg
  have hgm : ∀ k, some g = some k → ∃ e ∈ M, k ∈ e.ft a w := fun k hk => by
    cases hk
    refine ⟨_, hm2, ?_⟩
    show g ∈ boxFoot fs0 w (a.eval (.tmp sp))
    rw [hp, boxFoot_at hbk]
    exact List.mem_cons_self ..
  have hsub : ∀ k ∈ fldsFoot fs vs.toList, k ∈ (entAgg w0.heap.size bx i sx fs).ft a w := fun k hk => by
    show k ∈ (match a.eval (.tmp sx) with | .agg vs => fldsFoot fs vs.toList | _ => [])
    rw [hvs]
    exact hk
  have hgn : g ∉ fldsFoot fs vs.toList := by
    intro hgf
    refine h.led.apart _ (hE _ hm2) _ (hE _ hm1) hne ⟨hact _ hm2, hfi⟩ ⟨hact _ hm1, hfi⟩ g ?_ (hsub g hgf)
    show g ∈ boxFoot fs0 w (a.eval (.tmp sp))
    rw [hp, boxFoot_at hbk]
    exact List.mem_cons_self ..
  have := h.row hok hb none rfl (v := .tuple #[]) hg hfi (rowTab_slot (D := D) (ps := ps) t2 f) t3 _ _ hN hM hact hgm ?_
  · exact this
  · intro e he
    simp only [List.mem_singleton] at he
    subst he
    refine ⟨⟨g, vs, hp, hB, hb', fldsOK_kept hg fs vs.toList hf fun k hk hm => ?_⟩, fun k hk => .inr ?_⟩
    · cases hk; exact hgn hm
    · have hk' : k ∈ boxFoot fs w' (a.eval (.tmp sp)) := hk
      rw [hp, boxFoot_at hb'] at hk'
      rcases List.mem_cons.1 hk' with rfl | hk'
      · exact hgm _ rfl
      · exact ⟨_, hm1, hsub k hk'⟩
end
end Go.Proofs.YtcnhbodemabbdaaDoor
/- A region that draws its order, whose operations that change memory stand in one chain: stage for stage; the others only yield. -/
namespace Go.Proofs.YtcnhbodemabbdaaDoor
open Go.RowKit
set_option linter.unusedVariables false

/-- What holds in the midst of the region: ps: what yields (operation, slot, value); cs: the chain (operation, slot); W: what holds of memory behind each stage, given what the chain has yielded. -/
structure CInv (D : List Nat) (a0 : Act) (ps : List (Nat × Nat × Value)) (cs : List (Nat × Option Nat)) (W : List Value → World → Prop) (f : Nat → Bool) (a : Act) (w : World) : Prop where
  agree : Agree D a0 a
  vals : ∀ p ∈ ps, f p.1 = true → a.eval (.tmp p.2.1) = p.2.2
  st : ∃ xs : List Value, W xs w ∧ (∀ j c d, cs[j]? = some (c, d) → f c = decide (j < xs.length)) ∧ (∀ j c t, cs[j]? = some (c, some t) → j < xs.length → a.eval (.tmp t) = xs.getD j undef) ∧ xs.length ≤ cs.length

/-- The tables, checked by the kernel: a yield's and a link's slot is nobody else's. -/
def psTab (D : List Nat) (ps : List (Nat × Nat × Value)) (cs : List (Nat × Option Nat)) (i d : Nat) : Bool :=
  D.contains d && (ps.all fun p => (p.1 == i) == (p.2.1 == d)) && (cs.all fun c => c.1 != i && c.2 != some d)
def csTab (D : List Nat) (ps : List (Nat × Nat × Value)) (cs : List (Nat × Option Nat)) (i j : Nat) (d : Option Nat) : Bool :=
  (match d with | some d => D.contains d | none => true) && (ps.all fun p => p.1 != i && some p.2.1 != d) && ((List.range cs.length).all fun k => k == j || (match cs[k]? with | some c => c.1 != i && (c.2 != d || d == none) | none => true))

section
variable {P : Program} {ops : Array Oper} {Q : Exit → Act → World → Prop} {D : List Nat} {a0 a : Act} {w : World} {ps : List (Nat × Nat × Value)} {cs : List (Nat × Option Nat)} {W : List Value → World → Prop} {f : Nat → Bool} {i : Nat} {o : Oper}

theorem CInv.start (h : W [] w) : CInv D a0 ps cs W (fun _ => false) a0 w :=
  ⟨Agree.refl _ _, fun _ _ h => (by cases h), [], h, fun _ _ _ _ => rfl, fun _ _ _ _ h => (by cases h), Nat.zero_le _⟩
theorem CInv.at_ (h : CInv D a0 ps cs W f a w) (j : Nat) {i d : Nat} {v : Value} (hj : ps[j]? = some (i, d, v)) (hf : f i = true) : a.eval (.tmp d) = v :=
  h.vals (i, d, v) (List.mem_of_getElem? hj) hf
theorem CInv.att (h : CInv D a0 ps cs W f a w) (j : Nat) {i d : Nat} {v : Value} (hj : ps[j]? = some (i, d, v)) (hf : f i = true) : a.tmps[d]?.getD undef = v := by
  have := h.at_ j hj hf
  simp only [Act.eval, Array.getD_eq_getD_getElem?] at this
  exact this

theorem CInv.val (h : CInv D a0 ps cs W f a w) (d : Nat) (hdl : d < a0.tmps.size)
    (ht : psTab D ps cs i d = true) (v : Value) (hv : ps.filter (·.1 == i) = [(i, d, v)]) : CInv D a0 ps cs W (upd f i) (a.put (some d) v) w := by
  simp only [psTab, Bool.and_eq_true] at ht
  obtain ⟨⟨t1, t2⟩, t3⟩ := ht
  obtain ⟨xs, hW, h1, h2, h3⟩ := h.st
  have hc : ∀ j c d', cs[j]? = some (c, d') → c ≠ i ∧ d' ≠ some d := fun j c d' hj => by
    have := List.all_eq_true.1 t3 _ (List.mem_of_getElem? hj)
    simpa using this
  refine ⟨h.agree.put (by simpa using t1) v, ?_, xs, hW, fun j c d' hj => ?_, fun j c t hj hlt => ?_, h3⟩
  · intro p hp hpf
    have q1 := List.all_eq_true.1 t2 p hp
    by_cases hpi : p.1 = i
    · have hm : p ∈ ps.filter (·.1 == i) := List.mem_filter.2 ⟨hp, by simpa using hpi⟩
      rw [hv, List.mem_singleton] at hm
      rw [hm]
      exact eval_put_eq (by rw [h.agree.2.1]; exact hdl)
    · have q3 : p.2.1 ≠ d := fun e => by
        rw [e] at q1
        simp [hpi] at q1
      rw [upd_ne f hpi] at hpf
      rw [eval_put_ne q3]
      exact h.vals p hp hpf
  · rw [upd_ne f (hc j c d' hj).1]
    exact h1 j c d' hj
  · rw [eval_put_ne fun e => (hc j c _ hj).2 (by rw [e])]
    exact h2 j c t hj hlt
/-- An operation that only yields a value known ahead. -/
theorem CInv.yield (h : CInv D a0 ps cs W f a w) (ho : ops[i]? = some o) (hgd : o.guard = none) (d : Nat) (hod : o.dst = some d) (hdl : d < a0.tmps.size)
    (ht : psTab D ps cs i d = true) (v : Value) (hv : ps.filter (·.1 == i) = [(i, d, v)]) (hrun : (execOp a.eval o).run P w = .ok (.value v) w) : wpOp P ops Q i (CInv D a0 ps cs W (upd f i)) a w := by
  refine wpOp_of ho hgd (wp_yield hrun ?_)
  rw [hod]
  exact h.val d hdl ht v hv
/-- A call that only looks, and yields a value known ahead. -/
theorem CInv.look (h : CInv D a0 ps cs W f a w) (ho : ops[i]? = some o) (hgd : o.guard = none) (d : Nat) (hod : o.dst = some d) (hdl : d < a0.tmps.size)
    (ht : psTab D ps cs i d = true) (v : Value) (hv : ps.filter (·.1 == i) = [(i, d, v)]) (F : FuncId) (xs : Array Operand) (ts : Array TypeId) (args : Array Value) (hop : o.op = .call { callee := .value (.func F), args := xs, argTypes := ts })
    (hF : (P.funcs[F]?).map (fun fn => (fn.name == "runtime.NumGoroutine", fn.body.isNone)) = some (false, false)) (ha : xs.map a.eval = args)
    (hc : Calls P F args w fun e w' => e = .returned v ∧ w = w') : wpOp P ops Q i (CInv D a0 ps cs W (upd f i)) a w := by
  refine wpOp_of ho hgd (wp_call F xs ts args hop hF ha (hc.mono ?_))
  rintro e w' ⟨rfl, rfl⟩
  refine ⟨v, rfl, ?_⟩
  rw [hod]
  exact h.val d hdl ht v hv
/-- What the chain has yielded by now. -/
theorem CInv.got (h : CInv D a0 ps cs W f a w) (j : Nat) {c t : Nat} (hj : cs[j]? = some (c, some t)) (hf : f c = true) : ∃ xs : List Value, W xs w ∧ j < xs.length ∧ xs.length ≤ cs.length ∧ a.eval (.tmp t) = xs.getD j undef := by
  obtain ⟨xs, hW, h1, h2, h3⟩ := h.st
  have e := h1 j c _ hj
  rw [hf] at e
  have hlt := of_decide_eq_true e.symm
  exact ⟨xs, hW, hlt, h3, h2 j c t hj hlt⟩

/-- The chain's next link. -/
theorem CInv.link (h : CInv D a0 ps cs W f a w) (hfi : f i = false) (ho : ops[i]? = some o) (hgd : o.guard = none) (j : Nat) (d : Option Nat) (hod : o.dst = d) (hj : cs[j]? = some (i, d)) (hdl : ∀ t, d = some t → t < a0.tmps.size)
    (ht : csTab D ps cs i j d = true) (hprev : ∀ k c d', k + 1 = j → cs[k]? = some (c, d') → f c = true)
    (hwp : ∀ xs, xs.length = j → W xs w → (∀ k c t, cs[k]? = some (c, some t) → k < j → a.eval (.tmp t) = xs.getD k undef) → o.wp P a w (fun a' w' => ∃ v, a' = a.put d v ∧ W (xs ++ [v]) w') Q) :
    wpOp P ops Q i (CInv D a0 ps cs W (upd f i)) a w := by
  simp only [csTab, Bool.and_eq_true] at ht
  obtain ⟨⟨t1, t2⟩, t3⟩ := ht
  obtain ⟨xs, hW, h1, h2, h3⟩ := h.st
  have hlen : xs.length = j := by
    have e1 := h1 j i d hj
    rw [hfi] at e1
    have e2 : ¬ j < xs.length := of_decide_eq_false e1.symm
    cases j with
    | zero => omega
    | succ k =>
      have hlt : k + 1 < cs.length := (List.getElem?_eq_some_iff.1 hj).1
      have hk : cs[k]? = some (cs[k]'(by omega)) := List.getElem?_eq_getElem (by omega)
      have e3 := h1 k _ _ hk
      rw [hprev k _ _ rfl hk] at e3
      have e4 : k < xs.length := of_decide_eq_true e3.symm
      omega
  have hoth : ∀ k c d', cs[k]? = some (c, d') → k ≠ j → c ≠ i ∧ (d' ≠ d ∨ d = none) := fun k c d' hk hne => by
    have hlt := (List.getElem?_eq_some_iff.1 hk).1
    have := List.all_eq_true.1 t3 k (List.mem_range.2 hlt)
    rw [hk] at this
    simpa [hne] using this
  refine wpOp_of ho hgd (Oper.wp_mono ?_ (hwp xs hlen hW fun k c t hk hlt => h2 k c t hk (by omega)))
  rintro a' w' ⟨v, rfl, hW'⟩
  have hjl : j < cs.length := (List.getElem?_eq_some_iff.1 hj).1
  refine ⟨?_, ?_, xs ++ [v], hW', fun k c d' hk => ?_, fun k c t hk hlt => ?_, by rw [List.length_append, List.length_singleton]; omega⟩
  · cases d with
    | none => exact h.agree
    | some t => exact h.agree.put (by simpa using t1) v
  · intro p hp hpf
    have q1 := List.all_eq_true.1 t2 p hp
    simp only [Bool.and_eq_true, bne_iff_ne] at q1
    rw [upd_ne f q1.1] at hpf
    rw [eval_put_slot q1.2]
    exact h.vals p hp hpf
  · rw [List.length_append, List.length_singleton]
    by_cases hkj : k = j
    · subst hkj
      rw [hj] at hk
      cases hk
      rw [upd_eq]
      exact (decide_eq_true (by omega)).symm
    · rw [upd_ne f (hoth k c d' hk hkj).1, h1 k c d' hk, decide_eq_decide]
      omega
  · rw [List.length_append, List.length_singleton] at hlt
    by_cases hkj : k = j
    · subst hkj
      rw [hj] at hk
      cases hk
      rw [List.getD_eq_getElem?_getD, List.getElem?_append_right (by omega), hlen]
      simp only [Nat.sub_self, List.getElem?_cons_zero, Option.getD_some]
      exact eval_put_eq (by rw [h.agree.2.1]; exact hdl t rfl)
    · have hne : some t ≠ d := by
        rcases (hoth k c (some t) hk hkj).2 with e | e
        · exact e
        · rw [e]; simp
      rw [eval_put_slot hne, h2 k c t hk (by omega), List.getD_eq_getElem?_getD, List.getD_eq_getElem?_getD, List.getElem?_append_left (by omega)]
/-- All has come up. -/
theorem CInv.done (h : CInv D a0 ps cs W f a w) (hall : ∀ c ∈ cs, f c.1 = true) : ∃ xs, xs.length = cs.length ∧ W xs w ∧ ∀ j c t, cs[j]? = some (c, some t) → a.eval (.tmp t) = xs.getD j undef := by
  obtain ⟨xs, hW, h1, h2, h3⟩ := h.st
  have hl : xs.length = cs.length := by
    refine Nat.le_antisymm h3 (Nat.le_of_not_lt fun hlt => ?_)
    have hk : cs[xs.length]? = some (cs[xs.length]) := List.getElem?_eq_getElem hlt
    have e : f (cs[xs.length]).1 = decide (xs.length < xs.length) := h1 _ _ _ hk
    rw [hall _ (List.getElem_mem hlt)] at e
    have := of_decide_eq_true e.symm
    omega
  exact ⟨xs, hl, hW, fun j c t hj => h2 j c t hj (by rw [hl]; exact (List.getElem?_eq_some_iff.1 hj).1)⟩
end
end Go.Proofs.YtcnhbodemabbdaaDoor
