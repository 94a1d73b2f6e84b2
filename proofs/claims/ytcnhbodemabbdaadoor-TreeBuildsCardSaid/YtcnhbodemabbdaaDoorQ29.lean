/- A region that draws its order, by an invariant of one's own on memory: what holds of memory is told by which operations have run, and by the values of some slots. -/
import Derived.Test.YtcnhbodemabbdaaDoorQ26
namespace Go.Proofs.YtcnhbodemabbdaaDoor
open Go.RowKit
set_option linter.unusedVariables false

/-- ps: slots whose values are known ahead; S: the slots that J speaks of. -/
structure JInv (D : List Nat) (a0 : Act) (ps : List (Nat × Nat × Value)) (S : List Nat) (J : (Nat → Bool) → List Value → World → Prop) (f : Nat → Bool) (a : Act) (w : World) : Prop where
  agree : Agree D a0 a
  vals : ∀ p ∈ ps, f p.1 = true → a.eval (.tmp p.2.1) = p.2.2
  mem : J f (S.map fun s => a.eval (.tmp s)) w
/-- Operation i writes slot d: nobody else's. -/
def jTab (D S : List Nat) (ps : List (Nat × Nat × Value)) (i d : Nat) : Bool := D.contains d && (ps.all fun p => (p.1 == i) == (p.2.1 == d)) && !S.contains d
def jTabM (D : List Nat) (ps : List (Nat × Nat × Value)) (i : Nat) (d : Option Nat) : Bool := (match d with | some d => D.contains d | none => true) && (ps.all fun p => p.1 != i && some p.2.1 != d)
section
variable {P : Program} {ops : Array Oper} {Q : Exit → Act → World → Prop} {D S : List Nat} {a0 a : Act} {w : World} {ps : List (Nat × Nat × Value)} {J : (Nat → Bool) → List Value → World → Prop} {f : Nat → Bool} {i : Nat} {o : Oper}
theorem JInv.start (h : J (fun _ => false) (S.map fun s => a0.eval (.tmp s)) w) : JInv D a0 ps S J (fun _ => false) a0 w := ⟨Agree.refl _ _, fun _ _ h => (by cases h), h⟩
theorem JInv.at_ (h : JInv D a0 ps S J f a w) (j : Nat) {i d : Nat} {v : Value} (hj : ps[j]? = some (i, d, v)) (hf : f i = true) : a.eval (.tmp d) = v :=
  h.vals (i, d, v) (List.mem_of_getElem? hj) hf
theorem JInv.att (h : JInv D a0 ps S J f a w) (j : Nat) {i d : Nat} {v : Value} (hj : ps[j]? = some (i, d, v)) (hf : f i = true) : a.tmps[d]?.getD undef = v := by
  have := h.at_ j hj hf
  simp only [Act.eval, Array.getD_eq_getD_getElem?] at this
  exact this
theorem map_put {S : List Nat} {a : Act} {d : Nat} {v : Value} (h : S.contains d = false) : (S.map fun s => (a.put (some d) v).eval (.tmp s)) = S.map fun s => a.eval (.tmp s) := by
  apply List.map_congr_left
  intro s hs
  refine eval_put_ne fun e => ?_
  subst e
  have : S.contains s = true := by simpa using hs
  rw [this] at h
  cases h
/-- An operation whose value is known ahead, whatever it does to memory. -/
theorem JInv.stepV (h : JInv D a0 ps S J f a w) (ho : ops[i]? = some o) (hgd : o.guard = none) (d : Nat) (hod : o.dst = some d) (hdl : d < a0.tmps.size)
    (ht : jTab D S ps i d = true) (v : Value) (hv : ps.filter (·.1 == i) = [(i, d, v)]) (hwp : o.wp P a w (fun a' w' => a' = a.put (some d) v ∧ J (upd f i) (S.map fun s => a.eval (.tmp s)) w') Q) : wpOp P ops Q i (JInv D a0 ps S J (upd f i)) a w := by
  refine wpOp_of ho hgd (Oper.wp_mono ?_ hwp)
  rintro a' w' ⟨rfl, hm⟩
  simp only [jTab, Bool.and_eq_true, Bool.not_eq_true'] at ht
  obtain ⟨⟨t1, t2⟩, t3⟩ := ht
  refine ⟨h.agree.put (by simpa using t1) v, fun p hp hpf => ?_, by rw [map_put t3]; exact hm⟩
  have q1 := List.all_eq_true.1 t2 p hp
  by_cases hpi : p.1 = i
  · have hm : p ∈ ps.filter (·.1 == i) := List.mem_filter.2 ⟨hp, by simpa using hpi⟩
    rw [hv, List.mem_singleton] at hm
    rw [hm]
    exact eval_put_eq (by rw [h.agree.2.1]; exact hdl)
  · have q3 : p.2.1 ≠ d := fun e => by
      rw [e] at q1
      simp [hpi] at q1
    rw [upd_ne f hpi] at hpf
    rw [eval_put_ne q3]
    exact h.vals p hp hpf
/-- A call whose answer is known ahead, behind which memory has only grown. -/
theorem JInv.call (h : JInv D a0 ps S J f a w) (ho : ops[i]? = some o) (hgd : o.guard = none) (d : Nat) (hod : o.dst = some d) (hdl : d < a0.tmps.size)
    (ht : jTab D S ps i d = true) (v : Value) (hv : ps.filter (·.1 == i) = [(i, d, v)]) (hJ : ∀ L w', J f L w → Ext w w' → J (upd f i) L w') (G : FuncId) (xs : Array Operand) (ts : Array TypeId) (args : Array Value) (hop : o.op = .call { callee := .value (.func G), args := xs, argTypes := ts })
    (hF : (P.funcs[G]?).map (fun fn => (fn.name == "runtime.NumGoroutine", fn.body.isNone)) = some (false, false)) (ha : xs.map a.eval = args)
    (hc : Calls P G args w fun e w' => e = .returned v ∧ Ext w w') : wpOp P ops Q i (JInv D a0 ps S J (upd f i)) a w := by
  refine h.stepV ho hgd d hod hdl ht v hv (wp_call G xs ts args hop hF ha (hc.mono ?_))
  rintro e w' ⟨rfl, hx⟩
  refine ⟨v, rfl, ?_⟩
  rw [hod]
  exact ⟨rfl, hJ _ _ h.mem hx⟩
/-- An operation that only yields a value known ahead. -/
theorem JInv.yield (h : JInv D a0 ps S J f a w) (ho : ops[i]? = some o) (hgd : o.guard = none) (d : Nat) (hod : o.dst = some d) (hdl : d < a0.tmps.size)
    (ht : jTab D S ps i d = true) (v : Value) (hv : ps.filter (·.1 == i) = [(i, d, v)]) (hJ : ∀ L, J f L w → J (upd f i) L w) (hrun : (execOp a.eval o).run P w = .ok (.value v) w) : wpOp P ops Q i (JInv D a0 ps S J (upd f i)) a w := by
  refine h.stepV ho hgd d hod hdl ht v hv (wp_yield hrun ?_)
  rw [hod]
  exact ⟨rfl, hJ _ h.mem⟩
/-- An operation that turns memory, or writes a slot that J speaks of. -/
theorem JInv.turn (h : JInv D a0 ps S J f a w) (ho : ops[i]? = some o) (hgd : o.guard = none) (d : Option Nat) (hod : o.dst = d)
    (ht : jTabM D ps i d = true) (hwp : o.wp P a w (fun a' w' => ∃ v, a' = a.put d v ∧ J (upd f i) (S.map fun s => (a.put d v).eval (.tmp s)) w') Q) : wpOp P ops Q i (JInv D a0 ps S J (upd f i)) a w := by
  refine wpOp_of ho hgd (Oper.wp_mono ?_ hwp)
  rintro a' w' ⟨v, rfl, hm⟩
  simp only [jTabM, Bool.and_eq_true] at ht
  obtain ⟨t1, t2⟩ := ht
  refine ⟨?_, fun p hp hpf => ?_, hm⟩
  · cases d with
    | none => exact h.agree
    | some d => exact h.agree.put (by simpa using t1) v
  · have q1 := List.all_eq_true.1 t2 p hp
    simp only [Bool.and_eq_true, bne_iff_ne] at q1
    rw [upd_ne f q1.1] at hpf
    rw [eval_put_slot q1.2]
    exact h.vals p hp hpf
end
end Go.Proofs.YtcnhbodemabbdaaDoor
