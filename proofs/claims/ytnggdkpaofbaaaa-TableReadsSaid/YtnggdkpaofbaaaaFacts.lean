/- A region that draws its order, by facts on what its operations have yielded: values, rows of bytes of the call's own, anything that outlives growing memory; a fact may die at an operation. -/
import Derived.Test.YtnggdkpaofbaaaaLast
namespace Go.Proofs.Ytnggdkpaofbaaaa
open Go.RowKit
set_option linter.unusedVariables false

/-- What is known of a value. -/
inductive Fk where
  | val (v : Value)
  | own (bs : List UInt8)
  | any (R : World → Value → Prop) (hm : Mono R)
def Fk.R (B : Nat) : Fk → World → Value → Prop
  | .val x => isVal x
  | .own bs => isOwn B bs
  | .any R _ => R
theorem Fk.mono (B : Nat) : ∀ k : Fk, Mono (k.R B)
  | .val x => isVal_mono x
  | .own bs => isOwn_mono B bs
  | .any R hm => hm
def Fk.isV : Fk → Bool
  | .val _ => true
  | _ => false
structure Fa where
  born : Nat
  dies : Option Nat
  slot : Nat
  k : Fk
def Fa.act (f : Nat → Bool) (p : Fa) : Prop := f p.born = true ∧ ∀ d, p.dies = some d → f d = false
structure FInv (D : List Nat) (a0 : Act) (w0 : World) (F : List Fa) (f : Nat → Bool) (a : Act) (w : World) : Prop where
  agree : Agree D a0 a
  ext : Ext w0 w
  facts : ∀ p ∈ F, p.act f → p.k.R w0.heap.size w (a.eval (.tmp p.slot))
theorem FInv.start {D : List Nat} {a0 : Act} {w0 : World} {F : List Fa} : FInv D a0 w0 F (fun _ => false) a0 w0 :=
  ⟨Agree.refl _ _, Ext.refl _, fun _ _ h => by cases h.1⟩

/-- The table's check at operation i, which writes slot d: nobody else's slot, but what is born or dies here. -/
def faTab (D : List Nat) (F : List Fa) (i : Nat) (d : Option Nat) : Bool :=
  (match d with | some d => D.contains d | none => true) && (F.all fun p => p.born == i || p.dies == some i || some p.slot != d)
section
variable {P : Program} {ops : Array Oper} {Q : Exit → Act → World → Prop} {D : List Nat} {a0 a : Act} {w0 w : World} {F : List Fa} {f : Nat → Bool} {i : Nat} {o : Oper}

theorem FInv.fact (h : FInv D a0 w0 F f a w) (j : Nat) {p : Fa} (hj : F[j]? = some p) (h1 : f p.born = true) (h2 : ∀ d, p.dies = some d → f d = false) : p.k.R w0.heap.size w (a.eval (.tmp p.slot)) :=
  h.facts p (List.mem_of_getElem? hj) ⟨h1, h2⟩
theorem FInv.at_ (h : FInv D a0 w0 F f a w) (j : Nat) {i d : Nat} {v : Value} (hj : F[j]? = some ⟨i, none, d, .val v⟩) (hf : f i = true) : a.eval (.tmp d) = v :=
  h.fact j hj hf (fun d h => by cases h)
theorem FInv.att (h : FInv D a0 w0 F f a w) (j : Nat) {i d : Nat} {v : Value} (hj : F[j]? = some ⟨i, none, d, .val v⟩) (hf : f i = true) : a.tmps[d]?.getD undef = v := by
  have := h.at_ j hj hf
  simp only [Act.eval, Array.getD_eq_getD_getElem?] at this
  exact this
theorem FInv.own (h : FInv D a0 w0 F f a w) (j : Nat) {i d : Nat} {dies : Option Nat} {bs : List UInt8} (hj : F[j]? = some ⟨i, dies, d, .own bs⟩) (hf : f i = true) (h2 : ∀ d, dies = some d → f d = false) : Own w0.heap.size w (a.eval (.tmp d)) bs :=
  h.fact j hj hf h2
theorem FInv.put (h : FInv D a0 w0 F f a w) (d : Option Nat) (v : Value) {w' : World} (ht : faTab D F i d = true) (hx : Ext w0 w')
    (hkeep : ∀ p ∈ F, p.born ≠ i → p.dies ≠ some i → p.act f → ∀ x, p.k.R w0.heap.size w x → p.k.R w0.heap.size w' x)
    (hnew : ∀ p ∈ F, p.born = i → p.k.R w0.heap.size w' ((a.put d v).eval (.tmp p.slot))) : FInv D a0 w0 F (upd f i) (a.put d v) w' := by
  simp only [faTab, Bool.and_eq_true] at ht
  refine ⟨?_, hx, fun p hp hact => ?_⟩
  · cases d with
    | none => exact h.agree
    | some d => exact h.agree.put (by simpa using ht.1) v
  · by_cases hb : p.born = i
    · exact hnew p hp hb
    · have hdi : p.dies ≠ some i := fun e => by
        have := hact.2 i e
        rw [upd_eq] at this
        cases this
      have hact' : p.act f := ⟨by rw [← upd_ne f hb]; exact hact.1, fun d' hd' => by
        have h3 := hact.2 d' hd'
        rwa [upd_ne f (fun e => hdi (by rw [hd', e]))] at h3⟩
      have hs := List.all_eq_true.1 ht.2 p hp
      simp only [Bool.or_eq_true, beq_iff_eq, bne_iff_ne] at hs
      have hsl : some p.slot ≠ d := by
        rcases hs with (e | e) | e
        · exact absurd e hb
        · exact absurd e hdi
        · exact e
      rw [eval_put_slot hsl]
      exact hkeep p hp hb hdi hact' _ (h.facts p hp hact')
/-- An operation behind which memory has only grown. -/
theorem FInv.stepG (h : FInv D a0 w0 F f a w) (ho : ops[i]? = some o) (hw : Region.wanted o (yielded ops a.tmps) = true) (d : Option Nat) (hod : o.dst = d)
    (ht : faTab D F i d = true) (hwp : o.wp P a w (fun a' w' => ∃ v, a' = a.put d v ∧ Ext w w' ∧ ∀ p ∈ F, p.born = i → p.k.R w0.heap.size w' ((a.put d v).eval (.tmp p.slot))) Q) : wpOp P ops Q i (FInv D a0 w0 F (upd f i)) a w := by
  refine wpOp_yes ho hw (Oper.wp_mono ?_ hwp)
  rintro a' w' ⟨v, rfl, hx, hn⟩
  exact h.put d v ht (h.ext.trans hx) (fun p hp _ _ _ x hr => Fk.mono _ p.k _ _ _ hr hx) hn
theorem born_val {v : Value} {d : Nat} (hdl : d < a0.tmps.size) (h : FInv D a0 w0 F f a w) (hv : F.filter (·.born == i) = [⟨i, none, d, .val v⟩]) (w' : World) : ∀ p ∈ F, p.born = i → p.k.R w0.heap.size w' ((a.put (some d) v).eval (.tmp p.slot)) := by
  intro p hp hb
  have hm : p ∈ F.filter (·.born == i) := List.mem_filter.2 ⟨hp, by simpa using hb⟩
  rw [hv, List.mem_singleton] at hm
  subst hm
  exact eval_put_eq (by rw [h.agree.2.1]; exact hdl)
/-- An operation that only yields a value known ahead. -/
theorem FInv.yieldG (h : FInv D a0 w0 F f a w) (ho : ops[i]? = some o) (hw : Region.wanted o (yielded ops a.tmps) = true) (d : Nat) (hod : o.dst = some d) (hdl : d < a0.tmps.size)
    (ht : faTab D F i (some d) = true) (v : Value) (hv : F.filter (·.born == i) = [⟨i, none, d, .val v⟩]) (hrun : (execOp a.eval o).run P w = .ok (.value v) w) : wpOp P ops Q i (FInv D a0 w0 F (upd f i)) a w := by
  refine h.stepG ho hw (some d) hod ht (wp_yield hrun ?_)
  rw [hod]
  exact ⟨v, rfl, Ext.refl _, born_val hdl h hv w⟩
theorem FInv.skipG (h : FInv D a0 w0 F f a w) (ho : ops[i]? = some o) (hw : Region.wanted o (yielded ops a.tmps) = false) (d : Nat) (hod : o.dst = some d) (hdl : d < a0.tmps.size)
    (ht : faTab D F i (some d) = true) (hv : F.filter (·.born == i) = [⟨i, none, d, .val undef⟩]) : wpOp P ops Q i (FInv D a0 w0 F (upd f i)) a w := by
  refine wpOp_no ho hw ?_
  rw [hod]
  exact h.put (some d) undef ht h.ext (fun p hp _ _ _ x hr => hr) (born_val hdl h hv w)
/-- A call that yields a value known ahead. -/
theorem FInv.callG (h : FInv D a0 w0 F f a w) (ho : ops[i]? = some o) (hw : Region.wanted o (yielded ops a.tmps) = true) (d : Nat) (hod : o.dst = some d) (hdl : d < a0.tmps.size)
    (ht : faTab D F i (some d) = true) (v : Value) (hv : F.filter (·.born == i) = [⟨i, none, d, .val v⟩]) (G : FuncId) (xs : Array Operand) (ts : Array TypeId) (args : Array Value) (hop : o.op = .call { callee := .value (.func G), args := xs, argTypes := ts })
    (hF : (P.funcs[G]?).map (fun fn => (fn.name == "runtime.NumGoroutine", fn.body.isNone)) = some (false, false)) (ha : xs.map a.eval = args)
    (hc : Calls P G args w fun e w' => e = .returned v ∧ Ext w w') : wpOp P ops Q i (FInv D a0 w0 F (upd f i)) a w := by
  refine h.stepG ho hw (some d) hod ht (wp_call G xs ts args hop hF ha (hc.mono ?_))
  rintro e w' ⟨rfl, hx⟩
  refine ⟨v, rfl, ?_⟩
  rw [hod]
  exact ⟨v, rfl, hx, born_val hdl h hv w'⟩
theorem born_own {v : Value} {d : Nat} {dies : Option Nat} {bs : List UInt8} (hdl : d < a0.tmps.size) (h : FInv D a0 w0 F f a w) (hv : F.filter (·.born == i) = [⟨i, dies, d, .own bs⟩]) {w' : World} (ho : Own w0.heap.size w' v bs) : ∀ p ∈ F, p.born = i → p.k.R w0.heap.size w' ((a.put (some d) v).eval (.tmp p.slot)) := by
  intro p hp hb
  have hm : p ∈ F.filter (·.born == i) := List.mem_filter.2 ⟨hp, by simpa using hb⟩
  rw [hv, List.mem_singleton] at hm
  subst hm
  show Own w0.heap.size w' ((a.put (some d) v).eval (.tmp d)) bs
  rw [eval_put_eq (by rw [h.agree.2.1]; exact hdl)]
  exact ho
/-- A call that yields new bytes. -/
theorem FInv.callO (h : FInv D a0 w0 F f a w) (ho : ops[i]? = some o) (hw : Region.wanted o (yielded ops a.tmps) = true) (d : Nat) (hod : o.dst = some d) (hdl : d < a0.tmps.size)
    (ht : faTab D F i (some d) = true) (dies : Option Nat) (bs : List UInt8) (hv : F.filter (·.born == i) = [⟨i, dies, d, .own bs⟩]) (G : FuncId) (xs : Array Operand) (ts : Array TypeId) (args : Array Value) (hop : o.op = .call { callee := .value (.func G), args := xs, argTypes := ts })
    (hF : (P.funcs[G]?).map (fun fn => (fn.name == "runtime.NumGoroutine", fn.body.isNone)) = some (false, false)) (ha : xs.map a.eval = args)
    (hc : Calls P G args w fun e w' => ∃ v, e = .returned v ∧ Own w.heap.size w' v bs ∧ Ext w w') : wpOp P ops Q i (FInv D a0 w0 F (upd f i)) a w := by
  refine h.stepG ho hw (some d) hod ht (wp_call G xs ts args hop hF ha (hc.mono ?_))
  rintro e w' ⟨v, rfl, hown, hx⟩
  refine ⟨v, rfl, ?_⟩
  rw [hod]
  exact ⟨v, rfl, hx, born_own hdl h hv (hown.lower h.ext.size)⟩
/-- A literal of bytes. -/
theorem FInv.litO (h : FInv D a0 w0 F f a w) (ho : ops[i]? = some o) (hw : Region.wanted o (yielded ops a.tmps) = true) (d : Nat) (hod : o.dst = some d) (hdl : d < a0.tmps.size)
    (ht : faTab D F i (some d) = true) (dies : Option Nat) (bs : List UInt8) (hv : F.filter (·.born == i) = [⟨i, dies, d, .own bs⟩]) (C : Array Value) (hC : C.toList = bv bs) (n : Nat) (hn : bs.length = n) (hn2 : n ≤ maxLen) {t : TypeId} (htt : t = 5) {s : Sem Value}
    (hs : execOp a.eval o = (do pure (Next.value (← s)))) (hrun : s.run P w = .ok (.slice (some ⟨w.heap.size, 0, none⟩) n n) (w.alloc (.cells C t))) : wpOp P ops Q i (FInv D a0 w0 F (upd f i)) a w := by
  subst htt hn
  refine h.stepG ho hw (some d) hod ht (wp_val hs hrun ?_)
  rw [hod]
  exact ⟨_, rfl, (Ext.refl _).alloc _, born_own hdl h hv (Own.lit bs C hC h.ext.size hn2)⟩
end
section
variable {ops : Array Oper} {Q : Exit → Act → World → Prop} {D : List Nat} {a0 a : Act} {w0 w : World} {F : List Fa} {f : Nat → Bool} {i : Nat} {o : Oper}
/-- append(x, s...): the row that x was is gone; no other row may be known. -/
theorem FInv.appS (h : FInv D a0 w0 F f a w) (hfi : f i = false) (ho : ops[i]? = some o) (hw : Region.wanted o (yielded ops a.tmps) = true) (d : Nat) (hod : o.dst = some d) (hdl : d < a0.tmps.size)
    (ht : faTab D F i (some d) = true) (hb : (F.all fun p => p.born == i || p.dies == some i || p.k.isV) = true) (dies : Option Nat) (bs : List UInt8) (y : ByteArray) (hv : F.filter (·.born == i) = [⟨i, dies, d, .own (bs ++ y.data.toList)⟩]) (s x : Nat)
    (hop : o.op = .call { callee := .builtin .append, args := #[.tmp s, .tmp x], argTypes := #[31, 9] }) (hown : Own w0.heap.size w (a.eval (.tmp s)) bs) (hx : a.eval (.tmp x) = .string y) (hlen : bs.length + y.size ≤ 140737488355328) :
    wpOp Try.prog ops Q i (FInv D a0 w0 F (upd f i)) a w := by
  refine wpOp_yes ho hw (wp_append_str w (.tmp s) (.tmp x) hop w0.heap.size _ bs rfl hown y hx hlen h.ext.size ?_)
  intro v' w' hown' hg
  rw [hod]
  refine h.put (some d) v' ht (hown.grows h.ext hg) (fun p hp h1 h2 _ z hr => ?_) (born_own hdl h hv hown')
  have h3 := List.all_eq_true.1 hb p hp
  simp only [Bool.or_eq_true, beq_iff_eq] at h3
  rcases h3 with (e | e) | e
  · exact absurd e h1
  · exact absurd e h2
  · cases hk : p.k with
    | val v => rw [hk] at hr; exact hr
    | own bs => rw [hk] at e; cases e
    | any R hm => rw [hk] at e; cases e
end
end Go.Proofs.Ytnggdkpaofbaaaa
