/- A struct in memory with rows of its own, and 'x.F = append(x.F, y)' in whatever order: the words for it. -/
import Derived.Test.YtcnhbodemabbdaaDoorQ15
namespace Go.Proofs.YtcnhbodemabbdaaDoor
open Go.RowKit
set_option linter.unusedVariables false

theorem results_row_tmp {P : Program} {fn : Func} {p u : Tmp} {ty : TypeId} (h : fn.results = #[.cell p ty, .tmp u]) (tmps : Array Value) (w : World) (g : Nat) (t : TypeId) (cs : Array Value) (d : TypeDesc)
    (hp : tmps.getD p undef = .pointer (some ⟨g, 0, none⟩)) (hg : Blk w g t cs)
    (hu : P.underlying ty = some d) (hd : (match d with | .struct _ | .array _ _ => true | _ => false) = true) (hi : (P.info? ty).map (·.size) = some cs.size) :
    (results fn tmps).run P w = .ok (.tuple #[.agg cs, tmps.getD u undef]) w := by
  rw [results_cell_tmp h]
  simp [hp, asAddr, run_loadVar_row w g t ty cs (0, 0) d hg hu hd hi]
/-- As wp_region_ops; what stands ahead of what has come up has come up. -/
theorem wp_region_opsC {P : Program} {ops : Array Oper} {Q : Exit → Act → World → Prop} {id : Nat} {a : Act} {w : World} (I : (Nat → Bool) → Act → World → Prop) (hm : P.follows .mixedOrders = true) (hb : backward .any ops = true)
    (hI : I (fun _ => false) a w.drew)
    (hstep : EachOp (fun i o => ∀ f a w, I f a w → f i = false → (∀ e ∈ o.after, Region.binds .any e = true → f e.on = true) → (∀ j o', ops[j]? = some o' → (o'.after.toList.any fun e => Region.binds .any e && e.on == i) = true → f j = false) → ClosedF .any ops f → wpOp P ops Q i (I (upd f i)) a w) 0 ops.toList)
    (hdone : ∀ f a w, I f a w → (∀ i < ops.size, f i = true) → (∀ i, ops.size ≤ i → f i = false) → Q .normal a w) : (Code.region id ops true).wp P Q a w := by
  refine wp_region_inv hm hb I hI (fun f a w h hcl i o ho hf hp => ?_) hdone
  have h1 := EachOp.get ops.toList 0 hstep i o (by simpa using ho)
  rw [Nat.zero_add] at h1
  refine h1 f a w h hf hp (fun j o' ho' hany => ?_) hcl
  rw [List.any_eq_true] at hany
  obtain ⟨e, he, h2⟩ := hany
  simp only [Bool.and_eq_true, beq_iff_eq] at h2
  cases hj : f j with
  | false => rfl
  | true =>
    have h3 := hcl j o' ho' hj e (by simpa using he) h2.1
    rw [h2.2, hf] at h3
    cases h3
theorem pre_cl {ops : Array Oper} {f : Nat → Bool} (h : ClosedF .any ops f) {j : Nat} {o : Oper} (ho : ops[j]? = some o) (hf : f j = true) (k : Nat) (hk : (o.after.toList.any fun e => Region.binds .any e && e.on == k) = true) : f k = true := by
  rw [List.any_eq_true] at hk
  obtain ⟨e, he, h1⟩ := hk
  have he : e ∈ o.after := by simpa using he
  simp only [Bool.and_eq_true, beq_iff_eq] at h1
  rw [← h1.2]
  exact h j o ho hf e he h1.1
theorem own_kept {w w' : World} {base : Nat} {e : TypeId} {size n : Nat} {v : Value} {xs : List Value} (h : w.ownsRow base e size v n xs) {row : Option Nat} (hg : w.grownBy w' row) (hne : ∀ k, v.ownBlock = some k → row ≠ some k) : w'.ownsRow base e size v n xs := by
  refine World.ownsRow.kept h hg ?_
  cases hv : v.ownBlock with
  | none => exact .inl rfl
  | some k => exact .inr fun e => hne k hv e.symm

/-- A row: its element's type and size, how many, its cells, its value. -/
structure ORow where
  E : TypeId
  sz : Nat
  n : Nat
  xs : List Value
  v : Value
/-- The struct at gN holds nc; its rows are owned and lie apart; RP: what else holds of memory below the rows. -/
structure OW (w0 : World) (B : Nat) (RP : World → Prop) (gN : Nat) (T : TypeId) (nc : Array Value) (rows : List ORow) (w : World) : Prop where
  ext : Ext w0 w
  rd : RP w
  nod : Blk w gN T nc
  own : ∀ (i : Nat) (r : ORow), rows[i]? = some r → w.ownsRow B r.E r.sz r.v r.n r.xs
  apart : ∀ (i j : Nat) (r s : ORow), i ≠ j → rows[i]? = some r → rows[j]? = some s → ∀ k, r.v.ownBlock = some k → s.v.ownBlock ≠ some k
  hB : B ≤ w.heap.size
/-- What outlives the growing of rows from B on. -/
def Stays (B : Nat) (RP : World → Prop) : Prop := ∀ w w' row, RP w → w.grownBy w' row → (∀ k, row = some k → B ≤ k) → RP w'

section
variable {w0 w w' : World} {B gN : Nat} {RP RP' : World → Prop} {T : TypeId} {nc nc' : Array Value} {rows : List ORow}
theorem Stays.ext (h : Stays B RP) (hr : RP w) (k : Ext w w') : RP w' := h w w' none hr (grown_of_ext k) (fun _ h => by cases h)
theorem OW.more (h : OW w0 B RP gN T nc rows w) (hs : Stays B RP) (k : Ext w w') : OW w0 B RP gN T nc rows w' :=
  ⟨h.ext.trans k, hs.ext h.rd k, h.nod.ext k, fun i r hi => own_ext (h.own i r hi) k, h.apart, Nat.le_trans h.hB k.size⟩
/-- What lies below the rows is turned. -/
theorem OW.turn (h : OW w0 B RP gN T nc rows w) {row : Option Nat} (hg : w.grownBy w' row) (hrd : RP' w') (hw : ∀ k, row = some k → w0.heap.size ≤ k ∧ k < B ∧ k ≠ gN) : OW w0 B RP' gN T nc rows w' :=
  ⟨Below.grown h.ext hg h.ext.size (fun k hk => (hw k hk).1), hrd, h.nod.grown hg (fun e => (hw gN e.symm).2.2 rfl), fun i r hi => own_kept (h.own i r hi) hg fun k hk e => by
    have h1 := (own_lt (h.own i r hi) hk).1
    have h2 := (hw k e).2.1
    omega, h.apart, Nat.le_trans h.hB hg.size⟩
/-- A row has grown. -/
theorem OW.app (h : OW w0 B RP gN T nc rows w) (hs : Stays B RP) (hgN : gN < B) (hw0 : w0.heap.size ≤ B) {i : Nat} {r : ORow} (hi : rows[i]? = some r) {v' : Value} {n' : Nat} {xs' : List Value} (ho : w'.ownsRow B r.E r.sz v' n' xs') (hg : w.grownBy w' r.v.ownBlock)
    (hf : v'.ownBlock = r.v.ownBlock ∨ v'.ownBlock = some w.heap.size) : OW w0 B RP gN T nc (rows.set i ⟨r.E, r.sz, n', xs', v'⟩) w' := by
  have hrow : ∀ k, r.v.ownBlock = some k → B ≤ k := fun k hk => (own_lt (h.own i r hi) hk).1
  have hil : i < rows.length := (List.getElem?_eq_some_iff.1 hi).1
  have hget : ∀ j s, (rows.set i ⟨r.E, r.sz, n', xs', v'⟩)[j]? = some s → (j = i ∧ s = ⟨r.E, r.sz, n', xs', v'⟩) ∨ (j ≠ i ∧ rows[j]? = some s) := by
    intro j s hj
    by_cases hji : j = i
    · subst hji
      rw [List.getElem?_set_self hil] at hj
      exact .inl ⟨rfl, (Option.some.inj hj).symm⟩
    · rw [List.getElem?_set_ne (Ne.symm hji)] at hj
      exact .inr ⟨hji, hj⟩
  have hnew : ∀ j s, j ≠ i → rows[j]? = some s → ∀ k, v'.ownBlock = some k → s.v.ownBlock ≠ some k := by
    intro j s hji hj k hk
    rcases hf with e | e
    · rw [e] at hk
      exact h.apart i j r s (Ne.symm hji) hi hj k hk
    · rw [e] at hk
      cases hk
      intro hk2
      have := (own_lt (h.own j s hj) hk2).2
      omega
  refine ⟨Below.grown h.ext hg h.ext.size (fun k hk => Nat.le_trans hw0 (hrow k hk)), hs w w' _ h.rd hg hrow, h.nod.grown hg (fun e => ?_), fun j s hj => ?_, fun j m s t hjm hj hm k hk => ?_, Nat.le_trans h.hB hg.size⟩
  · have := hrow gN e.symm
    omega
  · rcases hget j s hj with ⟨rfl, rfl⟩ | ⟨hji, hj⟩
    · exact ho
    · exact own_kept (h.own j s hj) hg fun k hk e => h.apart i j r s (Ne.symm hji) hi hj k e hk
  · rcases hget j s hj with ⟨e1, e2⟩ | ⟨hji, hj'⟩
    · rcases hget m t hm with ⟨e3, e4⟩ | ⟨hmi, hm'⟩
      · exact absurd (e1.trans e3.symm) hjm
      · rw [e2] at hk
        exact hnew m t hmi hm' k hk
    · rcases hget m t hm with ⟨e3, e4⟩ | ⟨hmi, hm'⟩
      · rw [e4]
        exact fun hk2 => hnew j s hji hj' k hk2 hk
      · exact h.apart j m s t hjm hj' hm' k hk
/-- The struct is written. -/
theorem OW.sto (h : OW w0 B RP gN T nc rows w) (hg : w.grownBy w' (some gN)) (hb : Blk w' gN T nc') (hrd : RP w') (hgN : gN < B) (hw : w0.heap.size ≤ gN) : OW w0 B RP gN T nc' rows w' :=
  ⟨Below.grown h.ext hg h.ext.size (fun k hk => by cases hk; exact hw), hrd, hb, fun i r hi => own_kept (h.own i r hi) hg fun k hk e => by
    cases e
    have h1 := (own_lt (h.own i r hi) hk).1
    omega, h.apart, Nat.le_trans h.hB hg.size⟩
theorem OW.row (h : OW w0 B RP gN T nc rows w) {i : Nat} {r : ORow} (hi : rows[i]? = some r) : w.ownsRow B r.E r.sz r.v r.n r.xs := h.own i r hi
end

/-- The stages of 'x.F = append(x.F, call)': x what the call answers, y what is appended. -/
def PushW (P0 P1 : World → Prop) (x : Value) (y : List Value) (P3 P4 : Value → World → Prop) : List Value → World → Prop
  | [], w => P0 w
  | [s], w => s = x ∧ P1 w
  | [s, l], w => s = x ∧ (∃ g, l = .slice (some ⟨g, 0, none⟩) 1 1 ∧ Cells w (some ⟨g, 0, none⟩) y) ∧ P1 w
  | [s, l, v], w => s = x ∧ P3 v w
  | [s, l, v, _], w => s = x ∧ P4 v w
  | _, _ => False
/-- The stages of 'x.F = append(x.F, y)'. -/
def PutW (P1 : World → Prop) (y : List Value) (P3 P4 : Value → World → Prop) : List Value → World → Prop
  | [], w => P1 w
  | [l], w => (∃ g, l = .slice (some ⟨g, 0, none⟩) 1 1 ∧ Cells w (some ⟨g, 0, none⟩) y) ∧ P1 w
  | [l, v], w => P3 v w
  | [l, v, _], w => P4 v w
  | _, _ => False
section
variable {P0 P1 : World → Prop} {x : Value} {y : List Value} {P3 P4 : Value → World → Prop} {w : World} {xs : List Value}
theorem PushW.ahead {N : World → Prop} (h : PushW P0 P1 x y P3 P4 xs w) (hl : xs.length ≤ 3) (h0 : ∀ w, P0 w → N w) (h1 : ∀ w, P1 w → N w) (h3 : ∀ v w, P3 v w → N w) : N w := by
  match xs, h, hl with
  | [], h, _ => exact h0 _ h
  | [s], h, _ => exact h1 _ h.2
  | [s, l], h, _ => exact h1 _ h.2.2
  | [s, l, v], h, _ => exact h3 _ _ h.2
  | s :: l :: v :: u :: q, h, hl => simp at hl
theorem PushW.first (h : PushW P0 P1 x y P3 P4 xs w) (hl : 0 < xs.length) : xs.getD 0 undef = x := by
  match xs, h, hl with
  | [], h, hl => simp at hl
  | [s], h, _ => exact h.1
  | [s, l], h, _ => exact h.1
  | [s, l, v], h, _ => exact h.1
  | [s, l, v, u], h, _ => exact h.1
  | s :: l :: v :: u :: q :: z, h, hl => exact h.elim
theorem PutW.ahead {N : World → Prop} (h : PutW P1 y P3 P4 xs w) (hl : xs.length ≤ 2) (h1 : ∀ w, P1 w → N w) (h3 : ∀ v w, P3 v w → N w) : N w := by
  match xs, h, hl with
  | [], h, _ => exact h1 _ h
  | [l], h, _ => exact h1 _ h.2
  | [l, v], h, _ => exact h3 _ _ h
  | l :: v :: u :: q, h, hl => simp at hl
variable {P : Program} {ops : Array Oper} {Q : Exit → Act → World → Prop} {D : List Nat} {a0 a : Act} {ps : List (Nat × Nat × Value)} {cs : List (Nat × Option Nat)} {W : List Value → World → Prop} {f : Nat → Bool} {i : Nat} {o : Oper}
/-- The chain has not come so far. -/
theorem CInv.before (h : CInv D a0 ps cs W f a w) (j : Nat) {c : Nat} {d : Option Nat} (hj : cs[j]? = some (c, d)) (hf : f c = false) : ∃ xs : List Value, W xs w ∧ xs.length ≤ j := by
  obtain ⟨xs, hW, h1, h2, h3⟩ := h.st
  have e := h1 j c d hj
  rw [hf] at e
  exact ⟨xs, hW, Nat.le_of_not_lt (of_decide_eq_false e.symm)⟩
theorem wp_store_cell {K : Act → World → Prop} (ty : TypeId) (x y : Operand) (ho : o.op = .store ty x y) (hod : o.dst = none) {p : Addr} {v : Value} {w' : World} (hx : a.eval x = .pointer (some p)) (hy : a.eval y = v)
    (hrun : (Instr.storeAt ty (.pointer (some p)) v).run P w = .ok () w') (hk : K a w') : o.wp P a w K Q := by
  unfold Oper.wp execOp
  simp only [ho, hx, hy, Sem.run_bind, hrun, Result.andThen_ok, Sem.run_pure]
  simpa [Oper.upon, hod, Act.put] using hk
theorem len1 {α : Type} {l : List α} (h : l.length = 1) : ∃ a, l = [a] := by
  match l, h with
  | [a], _ => exact ⟨a, rfl⟩
theorem len2 {α : Type} {l : List α} (h : l.length = 2) : ∃ a b, l = [a, b] := by
  match l, h with
  | [a, b], _ => exact ⟨a, b, rfl⟩
theorem len3 {α : Type} {l : List α} (h : l.length = 3) : ∃ a b c, l = [a, b, c] := by
  match l, h with
  | [a, b, c], _ => exact ⟨a, b, c, rfl⟩
theorem len4 {α : Type} {l : List α} (h : l.length = 4) : ∃ a b c d, l = [a, b, c, d] := by
  match l, h with
  | [a, b, c, d], _ => exact ⟨a, b, c, d, rfl⟩
theorem blk_set {w : World} {g : Nat} {t : TypeId} {cs : Array Value} (h : Blk w g t cs) (i : Nat) (u : Value) : Blk (w.setCell ⟨g, i, none⟩ u) g t (cs.setIfInBounds i u) := h.set i u
end
end Go.Proofs.YtcnhbodemabbdaaDoor
/- The ledger's operations under a guard. -/
namespace Go.Proofs.YtcnhbodemabbdaaDoor
open Go.RowKit
set_option linter.unusedVariables false

section
variable {P : Program} {ops : Array Oper} {Q : Exit → Act → World → Prop} {D : List Nat} {a0 a : Act} {w0 w : World} {ps : List (Nat × Nat × Value)} {E : List Ent} {f : Nat → Bool} {i : Nat} {o : Oper}

theorem RInv.yieldG (h : RInv D a0 w0 ps E f a w) (hok : ∀ e ∈ E, e.OK w0.heap.size) (hb : diesTab E = true) (hfi : f i = false) (ho : ops[i]? = some o) (hw : Region.wanted o (yielded ops a.tmps) = true) (d : Nat) (hod : o.dst = some d) (hdl : d < a0.tmps.size)
    (ht : valTab D ps E i d = true) (v : Value) (hv : ps.filter (·.1 == i) = [(i, d, v)]) (hrun : (execOp a.eval o).run P w = .ok (.value v) w) : wpOp P ops Q i (RInv D a0 w0 ps E (upd f i)) a w := by
  refine wpOp_yes ho hw (wp_yield hrun ?_)
  rw [hod]
  simp only [valTab, Bool.and_eq_true] at ht
  obtain ⟨⟨t1, t2⟩, t3⟩ := ht
  have h2 : ∀ e ∈ E, e.born ≠ i ∧ e.dies ≠ i ∧ e.slot ≠ d := fun e he => by
    have := List.all_eq_true.1 t2 e he
    simp only [Bool.and_eq_true, bne_iff_ne] at this
    exact ⟨this.1.1, this.1.2, this.2⟩
  have hv' : ∀ p ∈ ps, p.1 = i → p.2.2 = v := fun p hp hpi => by
    have hm : p ∈ ps.filter (·.1 == i) := List.mem_filter.2 ⟨hp, by simpa using hpi⟩
    rw [hv, List.mem_singleton] at hm
    rw [hm]
  refine h.val hok hb d t1 hdl v hfi ?_ t3 hv' ?_ ?_
  · intro e he _ _ _ e'
    exact (h2 e he).2.2 (Option.some.inj e')
  · exact List.filter_eq_nil_iff.2 fun e he => by simpa using (h2 e he).1
  · exact List.filter_eq_nil_iff.2 fun e he => by simpa using (h2 e he).2.1
theorem RInv.callG (h : RInv D a0 w0 ps E f a w) (hok : ∀ e ∈ E, e.OK w0.heap.size) (hb : diesTab E = true) (hfi : f i = false) (ho : ops[i]? = some o) (hw : Region.wanted o (yielded ops a.tmps) = true) (d : Nat) (hod : o.dst = some d) (hdl : d < a0.tmps.size)
    (ht : valTab D ps E i d = true) (v : Value) (hv : ps.filter (·.1 == i) = [(i, d, v)]) (F : FuncId) (xs : Array Operand) (ts : Array TypeId) (args : Array Value) (hop : o.op = .call { callee := .value (.func F), args := xs, argTypes := ts })
    (hF : (P.funcs[F]?).map (fun fn => (fn.name == "runtime.NumGoroutine", fn.body.isNone)) = some (false, false)) (ha : xs.map a.eval = args)
    (hc : Calls P F args w fun e w' => e = .returned v ∧ Ext w w') : wpOp P ops Q i (RInv D a0 w0 ps E (upd f i)) a w := by
  refine wpOp_yes ho hw (wp_call F xs ts args hop hF ha (hc.mono ?_))
  rintro e w' ⟨rfl, hx⟩
  refine ⟨v, rfl, ?_⟩
  rw [hod]
  simp only [valTab, Bool.and_eq_true] at ht
  obtain ⟨⟨t1, t2⟩, t3⟩ := ht
  have h2 : ∀ e ∈ E, e.born ≠ i ∧ e.dies ≠ i ∧ e.slot ≠ d := fun e he => by
    have := List.all_eq_true.1 t2 e he
    simp only [Bool.and_eq_true, bne_iff_ne] at this
    exact ⟨this.1.1, this.1.2, this.2⟩
  refine ⟨h.agree.put (by simpa using t1) v, h.ext.trans hx, ?_, h.led.step hok hb i (some d) v (grown_of_ext hx) hfi (fun e he _ _ _ e' => (h2 e he).2.2 (Option.some.inj e')) [] [] ?_ ?_ (fun _ he => by cases he) (fun _ hk => by cases hk) (fun _ he => by cases he)⟩
  · intro p hp hpf
    have h1 := List.all_eq_true.1 t3 p hp
    by_cases hpi : p.1 = i
    · have hm : p ∈ ps.filter (·.1 == i) := List.mem_filter.2 ⟨hp, by simpa using hpi⟩
      rw [hv, List.mem_singleton] at hm
      rw [hm]
      exact eval_put_eq (by rw [h.agree.2.1]; exact hdl)
    · have h3 : p.2.1 ≠ d := fun e => by
        rw [e] at h1
        simp [hpi] at h1
      rw [upd_ne f hpi] at hpf
      rw [eval_put_ne h3]
      exact h.vals p hp hpf
  · exact List.filter_eq_nil_iff.2 fun e he => by simpa using (h2 e he).1
  · exact List.filter_eq_nil_iff.2 fun e he => by simpa using (h2 e he).2.1
theorem RInv.litG (h : RInv D a0 w0 ps E f a w) (hok : ∀ e ∈ E, e.OK w0.heap.size) (hb : diesTab E = true) (hfi : f i = false) (ho : ops[i]? = some o) (hw : Region.wanted o (yielded ops a.tmps) = true) (d : Nat) (hod : o.dst = some d) (hdl : d < a0.tmps.size)
    (ht : rowTab D ps E i (some d) = true) (dies : Nat) (t : TypeId) (n : Nat) (C : Array Value) (hN : E.filter (·.born == i) = [entRow w0.heap.size i dies d t 1 n C.toList]) (hM : E.filter (·.dies == i) = [])
    (hn : C.size = n) (hn2 : n ≤ maxLen) {s : Sem Value} (hs : execOp a.eval o = (do pure (Next.value (← s)))) (hrun : s.run P w = .ok (.slice (some ⟨w.heap.size, 0, none⟩) n n) (w.alloc (.cells C t))) : wpOp P ops Q i (RInv D a0 w0 ps E (upd f i)) a w := by
  refine wpOp_yes ho hw (wp_val hs hrun ?_)
  rw [hod]
  simp only [rowTab, Bool.and_eq_true] at ht
  obtain ⟨⟨t1, t2⟩, t3⟩ := ht
  have hev : (a.put (some d) (Value.slice (some ⟨w.heap.size, 0, none⟩) n n)).eval (.tmp d) = Value.slice (some ⟨w.heap.size, 0, none⟩) n n := eval_put_eq (by rw [h.agree.2.1]; exact hdl)
  have hg : w.grownBy (w.alloc (.cells C t)) none := ⟨rfl, rfl, rfl, by simp, fun k hk _ => Below.heap_alloc w _ k hk⟩
  refine h.row hok hb (some d) t1 _ hg hfi (rowTab_slot (D := D) (ps := ps) t2 f) t3 _ _ hN hM (fun _ he => by cases he) (fun _ hk => by cases hk) ?_
  intro e he
  simp only [List.mem_singleton] at he
  subst he
  refine ⟨?_, fun k hk => .inl ?_⟩
  · show (w.alloc _).ownsRow _ _ _ ((a.put _ _).eval (.tmp d)) _ _
    rw [hev]
    exact own_lit C h.ext.size hn2 (by rw [hn, Nat.mul_one])
  · have hk' : k ∈ ((a.put (some d) (Value.slice (some ⟨w.heap.size, 0, none⟩) n n)).eval (.tmp d)).ownBlock.toList := hk
    rw [hev] at hk'
    simp [Value.ownBlock] at hk'
    omega
theorem RInv.appG (h : RInv D a0 w0 ps E f a w) (hok : ∀ e ∈ E, e.OK w0.heap.size) (hb : diesTab E = true) (hfi : f i = false) (ho : ops[i]? = some o) (hw : Region.wanted o (yielded ops a.tmps) = true) (d : Nat) (hod : o.dst = some d) (hdl : d < a0.tmps.size)
    (ht : rowTab D ps E i (some d) = true) (s : Nat) (x : Operand) (ty : TypeId) (hop : o.op = .call { callee := .builtin .append, args := #[.tmp s, x], argTypes := #[ty, ty] })
    (born dies : Nat) (t : TypeId) (z : Value) (bytes n m : Nat) (xs news : List Value) (M : List Ent)
    (hN : E.filter (·.born == i) = [entRow w0.heap.size i dies d t 1 (n + m) (xs ++ news)]) (hM : E.filter (·.dies == i) = entRow w0.heap.size born i s t 1 n xs :: M) (hact : ∀ e ∈ entRow w0.heap.size born i s t 1 n xs :: M, f e.born = true)
    (hu : P.underlying ty = some (.slice t)) (hi : (P.info? t).map (fun i => (i.zero, i.size, i.bytes)) = some (some z, 1, bytes)) (hz : z.cells.size = 1)
    (A : Option Addr) (c : Nat) (hx : a.eval x = .slice A m c) (hl : news.length = m) (hr : Cells w A news) (h1 : ∀ u ∈ news, u.oneCell' = true)
    (h63 : n + m ≤ maxLen) (hbytes : (n + m) * bytes ≤ 140737488355328) : wpOp P ops Q i (RInv D a0 w0 ps E (upd f i)) a w := by
  simp only [rowTab, Bool.and_eq_true] at ht
  obtain ⟨⟨t1, t2⟩, t3⟩ := ht
  have hmem : entRow w0.heap.size born i s t 1 n xs ∈ E := by
    have : entRow w0.heap.size born i s t 1 n xs ∈ E.filter (·.dies == i) := by rw [hM]; exact List.mem_cons_self ..
    exact (List.mem_filter.1 this).1
  have hown : w.ownsRow w0.heap.size t 1 (a.eval (.tmp s)) n xs := h.led.rows _ hmem ⟨hact _ (List.mem_cons_self ..), hfi⟩
  refine wpOp_yes ho hw (wp_append w (.tmp s) x ty hop w0.heap.size t z 1 bytes hu hi hz (by decide) _ n xs rfl hown A m c news hx (by rw [hl, Nat.mul_one]) hr h1 h63 hbytes h.ext.size ?_)
  intro v' w' ho' hg hfr
  rw [hod]
  have hev : (a.put (some d) v').eval (.tmp d) = v' := eval_put_eq (by rw [h.agree.2.1]; exact hdl)
  refine h.row hok hb (some d) t1 _ hg hfi (rowTab_slot (D := D) (ps := ps) t2 f) t3 _ _ hN hM hact (fun k hk => ⟨_, List.mem_cons_self .., ?_⟩) ?_
  · show k ∈ (a.eval (.tmp s)).ownBlock.toList
    rw [hk]; simp
  · intro e he
    simp only [List.mem_singleton] at he
    subst he
    refine ⟨?_, fun k hk => ?_⟩
    · show w'.ownsRow _ _ _ ((a.put _ _).eval (.tmp d)) _ _
      rw [hev]
      exact ho'
    · have hk' : k ∈ ((a.put (some d) v').eval (.tmp d)).ownBlock.toList := hk
      rw [hev] at hk'
      have hk2 : v'.ownBlock = some k := by simpa using hk'
      rcases hfr with e | e
      · refine .inr ⟨_, List.mem_cons_self .., ?_⟩
        show k ∈ (a.eval (.tmp s)).ownBlock.toList
        rw [← e, hk2]; simp
      · rw [hk2] at e
        injection e with e
        exact .inl (by omega)
theorem RInv.aggG (h : RInv D a0 w0 ps E f a w) (hok : ∀ e ∈ E, e.OK w0.heap.size) (hb : diesTab E = true) (hfi : f i = false) (ho : ops[i]? = some o) (hw : Region.wanted o (yielded ops a.tmps) = true) (d : Nat) (hod : o.dst = some d) (hdl : d < a0.tmps.size)
    (ht : rowTab D ps E i (some d) = true) (dies : Nat) (fs : List Fld) (M : List Ent) (hN : E.filter (·.born == i) = [entAgg w0.heap.size i dies d fs]) (hM : E.filter (·.dies == i) = M) (hact : ∀ e ∈ M, f e.born = true)
    (vs : Array Value) (hf : fldsOK w0.heap.size w fs vs.toList) (hfoot : ∀ k ∈ fldsFoot fs vs.toList, ∃ e ∈ M, k ∈ e.ft a w)
    {s : Sem Value} (hs : execOp a.eval o = (do pure (Next.value (← s)))) (hrun : s.run P w = .ok (.agg vs) w) : wpOp P ops Q i (RInv D a0 w0 ps E (upd f i)) a w := by
  refine wpOp_yes ho hw (wp_val hs hrun ?_)
  rw [hod]
  simp only [rowTab, Bool.and_eq_true] at ht
  obtain ⟨⟨t1, t2⟩, t3⟩ := ht
  have hev : (a.put (some d) (Value.agg vs)).eval (.tmp d) = Value.agg vs := eval_put_eq (by rw [h.agree.2.1]; exact hdl)
  refine h.row hok hb (some d) t1 _ (World.grownBy.refl w none) hfi (rowTab_slot (D := D) (ps := ps) t2 f) t3 _ _ hN hM hact (fun _ hk => by cases hk) ?_
  intro e he
  simp only [List.mem_singleton] at he
  subst he
  refine ⟨⟨vs, hev, hf⟩, fun k hk => .inr (hfoot k ?_)⟩
  have hk' : k ∈ (match (a.put (some d) (Value.agg vs)).eval (.tmp d) with | .agg vs => fldsFoot fs vs.toList | _ => []) := hk
  rw [hev] at hk'
  exact hk'
theorem RInv.allocG (h : RInv D a0 w0 ps E f a w) (hok : ∀ e ∈ E, e.OK w0.heap.size) (hb : diesTab E = true) (hfi : f i = false) (ho : ops[i]? = some o) (hw : Region.wanted o (yielded ops a.tmps) = true) (d : Nat) (hod : o.dst = some d) (hdl : d < a0.tmps.size)
    (L : List Nat) (hL : ∀ j ∈ L, f j = false) (ht : (D.contains d && (E.all fun e => e.born == i || e.dies == i || e.slot != d || L.contains e.born) && (ps.all fun p => p.1 != i && (some p.2.1 != some d))) = true) (dies : Nat) (T : TypeId) (zs : List Value) (hN : E.filter (·.born == i) = [entBox w0.heap.size i dies d T (zs.map .val)]) (hM : E.filter (·.dies == i) = [])
    {s : Sem Value} (hs : execOp a.eval o = (do pure (Next.value (← s)))) (hrun : s.run P w = .ok (.pointer (some ⟨w.heap.size, 0, none⟩)) (w.alloc (.cells zs.toArray T))) : wpOp P ops Q i (RInv D a0 w0 ps E (upd f i)) a w := by
  refine wpOp_yes ho hw (wp_val hs hrun ?_)
  rw [hod]
  simp only [Bool.and_eq_true] at ht
  obtain ⟨⟨t1, t2⟩, t3⟩ := ht
  have hev : (a.put (some d) (Value.pointer (some ⟨w.heap.size, 0, none⟩))).eval (.tmp d) = Value.pointer (some ⟨w.heap.size, 0, none⟩) := eval_put_eq (by rw [h.agree.2.1]; exact hdl)
  have hg : w.grownBy (w.alloc (.cells zs.toArray T)) none := ⟨rfl, rfl, rfl, by simp, fun k hk _ => Below.heap_alloc w _ k hk⟩
  have hbk : Blk (w.alloc (.cells zs.toArray T)) w.heap.size T zs.toArray := Blk.new w _ _
  have hfl : ∀ (l : List Value), fldsOK w0.heap.size (w.alloc (.cells zs.toArray T)) (l.map .val) l ∧ fldsFoot (l.map .val) l = [] := by
    intro l
    induction l with
    | nil => exact ⟨trivial, rfl⟩
    | cons v l ih => exact ⟨⟨rfl, ih.1⟩, ih.2⟩
  refine h.row hok hb (some d) t1 _ hg hfi ?_ t3 _ _ hN hM (fun _ he => by cases he) (fun _ hk => by cases hk) ?_
  · intro e he hae h1 h2 h3
    have h4 := List.all_eq_true.1 t2 e he
    have h5 : e.slot = d := Option.some.inj h3
    have h6 : e.born ∈ L := by simpa [h1, h2, h5] using h4
    rw [Ent.act, hL _ h6] at hae
    cases hae.1
  intro e he
  simp only [List.mem_singleton] at he
  subst he
  refine ⟨⟨_, _, hev, h.ext.size, hbk, by simpa using (hfl zs).1⟩, fun k hk => .inl ?_⟩
  have hk' : k ∈ boxFoot (zs.map .val) (w.alloc (.cells zs.toArray T)) ((a.put (some d) (Value.pointer (some ⟨w.heap.size, 0, none⟩))).eval (.tmp d)) := hk
  rw [hev, boxFoot_at hbk] at hk'
  have e2 := (hfl zs).2
  simp only [e2, List.mem_singleton] at hk'
  omega
theorem RInv.storeG (h : RInv D a0 w0 ps E f a w) (hok : ∀ e ∈ E, e.OK w0.heap.size) (hb : diesTab E = true) (hfi : f i = false) (ho : ops[i]? = some o) (hw : Region.wanted o (yielded ops a.tmps) = true) (hod : o.dst = none)
    (ht : rowTab D ps E i none = true) (T : TypeId) (sp sx bp bx dies : Nat) (fs0 fs : List Fld) (hop : o.op = .store T (.tmp sp) (.tmp sx))
    (hN : E.filter (·.born == i) = [entBox w0.heap.size i dies sp T fs]) (M : List Ent) (hM : E.filter (·.dies == i) = M) (hm1 : entAgg w0.heap.size bx i sx fs ∈ M) (hm2 : entBox w0.heap.size bp i sp T fs0 ∈ M) (hact : ∀ e ∈ M, f e.born = true)
    (n : Nat) (hfl : fs.length = n) (hfl0 : fs0.length = n) (hi : (P.info? T).map (·.size) = some n) (hone : ∀ c, Fld.val c ∈ fs → c.oneCell' = true) (hne : bp ≠ bx) : wpOp P ops Q i (RInv D a0 w0 ps E (upd f i)) a w := by
  simp only [rowTab, Bool.and_eq_true] at ht
  obtain ⟨⟨t1, t2⟩, t3⟩ := ht
  have hE : ∀ e ∈ M, e ∈ E := fun e he => by rw [← hM] at he; exact (List.mem_filter.1 he).1
  have hlen : ∀ (fs : List Fld) (vs : List Value), fldsOK w0.heap.size w fs vs → vs.length = fs.length := by
    intro fs
    induction fs with
    | nil => intro vs h; cases vs with | nil => rfl | cons _ _ => exact h.elim
    | cons f fs ih => intro vs h; cases vs with | nil => exact h.elim | cons v vs => rw [List.length_cons, List.length_cons, ih vs h.2]
  have hcell : ∀ (fs : List Fld) (vs : List Value), (∀ c, Fld.val c ∈ fs → c.oneCell' = true) → fldsOK w0.heap.size w fs vs → ∀ v ∈ vs, v.oneCell' = true := by
    intro fs
    induction fs with
    | nil => intro vs _ h; cases vs with | nil => intro v hv; cases hv | cons _ _ => exact h.elim
    | cons f fs ih =>
      intro vs hc h
      cases vs with
      | nil => exact h.elim
      | cons v vs =>
        intro u hu
        rcases List.mem_cons.1 hu with rfl | hu
        · have h1 := h.1
          cases f with
          | val c => have h1 : u = c := h1; subst h1; exact hc _ (List.mem_cons_self ..)
          | row t sz n xs =>
            have h1 : w.ownsRow w0.heap.size t sz u n xs := h1
            rcases h1.2 with ⟨rfl, _⟩ | ⟨g, cap, cur, rfl, _⟩ <;> rfl
        · exact ih vs (fun c hc' => hc c (List.mem_cons_of_mem _ hc')) h.2 u hu
  obtain ⟨vs, hvs, hf⟩ := h.led.rows _ (hE _ hm1) ⟨hact _ hm1, hfi⟩
  obtain ⟨g, cs, hp, hB, hbk, hf0⟩ := h.led.rows _ (hE _ hm2) ⟨hact _ hm2, hfi⟩
  have hp : a.eval (.tmp sp) = .pointer (some ⟨g, 0, none⟩) := hp
  have hvs : a.eval (.tmp sx) = .agg vs := hvs
  have l1 := hlen fs vs.toList hf
  have l0 := hlen fs0 cs.toList hf0
  rw [Array.length_toList] at l1 l0
  refine wpOp_yes ho hw (wp_store_blk T (.tmp sp) (.tmp sx) hop hod g vs hp hvs T cs hbk (by omega) (by rw [hi, l0, hfl0]) (hcell fs vs.toList hone hf) ?_)
  intro w' hb' hg
  have hgm : ∀ k, some g = some k → ∃ e ∈ M, k ∈ e.ft a w := fun k hk => by
    cases hk
    refine ⟨_, hm2, ?_⟩
    show g ∈ boxFoot fs0 w (a.eval (.tmp sp))
    rw [hp, boxFoot_at hbk]
    exact List.mem_cons_self ..
  have hsub : ∀ k ∈ fldsFoot fs vs.toList, k ∈ (entAgg w0.heap.size bx i sx fs).ft a w := fun k hk => by
    show k ∈ (match a.eval (.tmp sx) with | .agg vs => fldsFoot fs vs.toList | _ => [])
    rw [hvs]
    exact hk
  have hgn : g ∉ fldsFoot fs vs.toList := by
    intro hgf
    refine h.led.apart _ (hE _ hm2) _ (hE _ hm1) hne ⟨hact _ hm2, hfi⟩ ⟨hact _ hm1, hfi⟩ g ?_ (hsub g hgf)
    show g ∈ boxFoot fs0 w (a.eval (.tmp sp))
    rw [hp, boxFoot_at hbk]
    exact List.mem_cons_self ..
  have := h.row hok hb none rfl (v := .tuple #[]) hg hfi (rowTab_slot (D := D) (ps := ps) t2 f) t3 _ _ hN hM hact hgm ?_
  · exact this
  · intro e he
    simp only [List.mem_singleton] at he
    subst he
    refine ⟨⟨g, vs, hp, hB, hb', fldsOK_kept hg fs vs.toList hf fun k hk hm => ?_⟩, fun k hk => .inr ?_⟩
    · cases hk; exact hgn hm
    · have hk' : k ∈ boxFoot fs w' (a.eval (.tmp sp)) := hk
      rw [hp, boxFoot_at hb'] at hk'
      rcases List.mem_cons.1 hk' with rfl | hk'
      · exact hgm _ rfl
      · exact ⟨_, hm1, hsub k hk'⟩
theorem RInv.skipG (h : RInv D a0 w0 ps E f a w) (hok : ∀ e ∈ E, e.OK w0.heap.size) (hb : diesTab E = true) (hfi : f i = false) (ho : ops[i]? = some o) (hw : Region.wanted o (yielded ops a.tmps) = false) (d : Nat) (hod : o.dst = some d) (hdl : d < a0.tmps.size)
    (ht : valTab D ps E i d = true) (hv : ps.filter (·.1 == i) = [(i, d, undef)]) : wpOp P ops Q i (RInv D a0 w0 ps E (upd f i)) a w := by
  refine wpOp_no ho hw ?_
  rw [hod]
  simp only [valTab, Bool.and_eq_true] at ht
  obtain ⟨⟨t1, t2⟩, t3⟩ := ht
  have h2 : ∀ e ∈ E, e.born ≠ i ∧ e.dies ≠ i ∧ e.slot ≠ d := fun e he => by
    have := List.all_eq_true.1 t2 e he
    simp only [Bool.and_eq_true, bne_iff_ne] at this
    exact ⟨this.1.1, this.1.2, this.2⟩
  have hv' : ∀ p ∈ ps, p.1 = i → p.2.2 = undef := fun p hp hpi => by
    have hm : p ∈ ps.filter (·.1 == i) := List.mem_filter.2 ⟨hp, by simpa using hpi⟩
    rw [hv, List.mem_singleton] at hm
    rw [hm]
  refine h.val hok hb d t1 hdl undef hfi ?_ t3 hv' ?_ ?_
  · intro e he _ _ _ e'
    exact (h2 e he).2.2 (Option.some.inj e')
  · exact List.filter_eq_nil_iff.2 fun e he => by simpa using (h2 e he).1
  · exact List.filter_eq_nil_iff.2 fun e he => by simpa using (h2 e he).2.1
theorem wanted_undef {g d' : Nat} {b : Bool} (hgd : o.guard = some (g, b)) (hd : (ops[g]?).bind (·.dst) = some d') (hv : a.eval (.tmp d') = undef) : Region.wanted o (yielded ops a.tmps) = false := by
  have h2 : yielded ops a.tmps g = none := by
    unfold yielded
    rw [hd]
    simp only [Act.eval, Array.getD_eq_getD_getElem?] at hv
    simp only [Option.bind_some]
    cases h : a.tmps[d']? with
    | none => rfl
    | some v =>
      rw [h] at hv
      have hv : v = undef := hv
      subst hv
      rfl
  unfold Region.wanted
  rw [hgd]
  simp only [h2]
  cases b <;> rfl
/-- A call that takes rows of the ledger, yields a value known ahead, and makes memory of its own alone. -/
theorem RInv.callD (h : RInv D a0 w0 ps E f a w) (hok : ∀ e ∈ E, e.OK w0.heap.size) (hb : diesTab E = true) (hfi : f i = false) (ho : ops[i]? = some o) (hw : Region.wanted o (yielded ops a.tmps) = true) (d : Nat) (hod : o.dst = some d) (hdl : d < a0.tmps.size)
    (ht : (D.contains d && (E.all fun e => e.born != i && (e.dies == i || e.slot != d)) && (ps.all fun p => (p.1 == i) == (p.2.1 == d))) = true) (v : Value) (hv : ps.filter (·.1 == i) = [(i, d, v)]) (M : List Ent) (hM : E.filter (·.dies == i) = M) (hact : ∀ e ∈ M, f e.born = true)
    (F : FuncId) (xs : Array Operand) (ts : Array TypeId) (args : Array Value) (hop : o.op = .call { callee := .value (.func F), args := xs, argTypes := ts })
    (hF : (P.funcs[F]?).map (fun fn => (fn.name == "runtime.NumGoroutine", fn.body.isNone)) = some (false, false)) (ha : xs.map a.eval = args)
    (hc : Calls P F args w fun e w' => e = .returned v ∧ Ext w w') : wpOp P ops Q i (RInv D a0 w0 ps E (upd f i)) a w := by
  refine wpOp_yes ho hw (wp_call F xs ts args hop hF ha (hc.mono ?_))
  rintro e w' ⟨rfl, hx⟩
  refine ⟨v, rfl, ?_⟩
  rw [hod]
  simp only [Bool.and_eq_true] at ht
  obtain ⟨⟨t1, t2⟩, t3⟩ := ht
  have h2 : ∀ e ∈ E, e.born ≠ i ∧ (e.dies = i ∨ e.slot ≠ d) := fun e he => by
    have := List.all_eq_true.1 t2 e he
    simpa using this
  refine ⟨h.agree.put (by simpa using t1) v, h.ext.trans hx, ?_, h.led.step hok hb i (some d) v (grown_of_ext hx) hfi (fun e he _ _ h3 e' => ?_) [] M ?_ hM hact (fun _ hk => by cases hk) (fun _ he => by cases he)⟩
  · intro p hp hpf
    have h1 := List.all_eq_true.1 t3 p hp
    by_cases hpi : p.1 = i
    · have hm : p ∈ ps.filter (·.1 == i) := List.mem_filter.2 ⟨hp, by simpa using hpi⟩
      rw [hv, List.mem_singleton] at hm
      rw [hm]
      exact eval_put_eq (by rw [h.agree.2.1]; exact hdl)
    · have h3 : p.2.1 ≠ d := fun e => by
        rw [e] at h1
        simp [hpi] at h1
      rw [upd_ne f hpi] at hpf
      rw [eval_put_ne h3]
      exact h.vals p hp hpf
  · rcases (h2 e he).2 with h4 | h4
    · exact h3 h4
    · exact h4 (Option.some.inj e')
  · exact List.filter_eq_nil_iff.2 fun e he => by simpa using (h2 e he).1
/-- A row of the ledger that nobody takes. -/
theorem RInv.row_at (h : RInv D a0 w0 ps E f a w) (e : Ent) (he : e ∈ E) (h1 : f e.born = true) (h2 : f e.dies = false) : e.R w (a.eval (.tmp e.slot)) := h.led.rows e he ⟨h1, h2⟩
end
end Go.Proofs.YtcnhbodemabbdaaDoor
/- A region that draws its order, whose last operation stands behind all others; stages of calls that make memory alone. -/
namespace Go.Proofs.YtcnhbodemabbdaaDoor
open Go.RowKit
set_option linter.unusedVariables false

theorem wp_region_opsL {P : Program} {ops : Array Oper} {Q : Exit → Act → World → Prop} {id : Nat} {a : Act} {w : World} (I : (Nat → Bool) → Act → World → Prop) (L : Nat) (hm : P.follows .mixedOrders = true) (hb : backward .any ops = true) (hL : ops.size = L + 1)
    (hdep : ((ops[L]?).map fun o => (List.range L).all fun i => o.after.toList.any fun e => Region.binds .any e && e.on == i) = some true)
    (hI : I (fun _ => false) a w.drew)
    (hstep : EachOp (fun i o => ∀ f a w, I f a w → f i = false → (∀ e ∈ o.after, Region.binds .any e = true → f e.on = true) → (∀ j o', ops[j]? = some o' → (o'.after.toList.any fun e => Region.binds .any e && e.on == i) = true → f j = false) → ClosedF .any ops f → wpOp P ops Q i (I (upd f i)) a w) 0 (ops.toList.take L))
    (hfin : ∀ f a w, I f a w → (∀ i < L, f i = true) → wpOp P ops Q L (fun a' w' => Q .normal a' w') a w) : (Code.region id ops true).wp P Q a w := by
  refine wp_region_inv hm hb (fun f a w => (f L = false → I f a w) ∧ (f L = true → Q .normal a w)) ⟨fun _ => hI, fun h => by cases h⟩ (fun f a w h hcl i o ho hf hp => ?_) (fun f a w h hall hfar => h.2 (hall L (by omega)))
  have hlt : i < ops.size := (Array.getElem?_eq_some_iff.1 ho).1
  have hoL : ops[L]? = some (ops[L]'(by omega)) := Array.getElem?_eq_getElem (by omega)
  have hdeps : ∀ i < L, ((ops[L]'(by omega)).after.toList.any fun e => Region.binds .any e && e.on == i) = true := fun i hi => by
    rw [hoL, Option.map_some] at hdep
    exact List.all_eq_true.1 (Option.some.inj hdep) i (List.mem_range.2 hi)
  by_cases hiL : i = L
  · subst hiL
    have hall : ∀ j < i, f j = true := fun j hj => by
      obtain ⟨e, he, h2⟩ := List.any_eq_true.1 (hdeps j hj)
      simp only [Bool.and_eq_true, beq_iff_eq] at h2
      rw [← h2.2]
      rw [hoL] at ho
      cases ho
      exact hp e (by simpa using he) h2.1
    refine wpOp_mono (fun a' w' h' => ⟨fun h3 => ?_, fun _ => h'⟩) (hfin f a w (h.1 hf) hall)
    rw [upd_eq] at h3
    cases h3
  · have hfL : f L = false := by
      cases hfl : f L with
      | false => rfl
      | true =>
        obtain ⟨e, he, h2⟩ := List.any_eq_true.1 (hdeps i (by omega))
        simp only [Bool.and_eq_true, beq_iff_eq] at h2
        have := hcl L _ hoL hfl e (by simpa using he) h2.1
        rw [h2.2, hf] at this
        cases this
    have h1 := EachOp.get (ops.toList.take L) 0 hstep i o (by rw [List.getElem?_take, if_pos (by omega)]; simpa using ho)
    rw [Nat.zero_add] at h1
    refine wpOp_mono (fun a' w' h' => ⟨fun _ => h', fun h3 => ?_⟩) (h1 f a w (h.1 hfL) hf hp (fun j o' ho' hany => ?_) hcl)
    · rw [upd_ne f (fun e => hiL e.symm), hfL] at h3
      cases h3
    · rw [List.any_eq_true] at hany
      obtain ⟨e, he, h2⟩ := hany
      simp only [Bool.and_eq_true, beq_iff_eq] at h2
      cases hj : f j with
      | false => rfl
      | true =>
        have h3 := hcl j o' ho' hj e (by simpa using he) h2.1
        rw [h2.2, hf] at h3
        cases h3

def waits1 (o : Oper) (i : Nat) : Bool := o.after.toList.any fun e => Region.binds .any e && e.on == i
/-- The region's operation L waits for all others: for some of them through another. -/
def waits2 (ops : Array Oper) (L : Nat) : Bool :=
  ((ops[L]?).map fun o => (List.range L).all fun i => waits1 o i || (List.range L).any fun j => waits1 o j && ((ops[j]?).map fun p => waits1 p i).getD false).getD false
theorem waits1_on {o : Oper} {i : Nat} {f : Nat → Bool} (h : waits1 o i = true) (k : ∀ e ∈ o.after, Region.binds .any e = true → f e.on = true) : f i = true := by
  obtain ⟨e, he, h2⟩ := List.any_eq_true.1 h
  simp only [Bool.and_eq_true, beq_iff_eq] at h2
  rw [← h2.2]
  exact k e (by simpa using he) h2.1
theorem wp_region_opsL2 {P : Program} {ops : Array Oper} {Q : Exit → Act → World → Prop} {id : Nat} {a : Act} {w : World} (I : (Nat → Bool) → Act → World → Prop) (L : Nat) (hm : P.follows .mixedOrders = true) (hb : backward .any ops = true) (hL : ops.size = L + 1)
    (hdep : waits2 ops L = true)
    (hI : I (fun _ => false) a w.drew)
    (hstep : EachOp (fun i o => ∀ f a w, I f a w → f i = false → (∀ e ∈ o.after, Region.binds .any e = true → f e.on = true) → (∀ j o', ops[j]? = some o' → (o'.after.toList.any fun e => Region.binds .any e && e.on == i) = true → f j = false) → ClosedF .any ops f → wpOp P ops Q i (I (upd f i)) a w) 0 (ops.toList.take L))
    (hfin : ∀ f a w, I f a w → (∀ i < L, f i = true) → wpOp P ops Q L (fun a' w' => Q .normal a' w') a w) : (Code.region id ops true).wp P Q a w := by
  have hoL : ops[L]? = some (ops[L]'(by omega)) := Array.getElem?_eq_getElem (by omega)
  have hdeps : ∀ (f : Nat → Bool), ClosedF .any ops f → (∀ e ∈ (ops[L]'(by omega)).after, Region.binds .any e = true → f e.on = true) → ∀ i < L, f i = true := fun f hcl hp i hi => by
    unfold waits2 at hdep
    rw [hoL, Option.map_some, Option.getD_some] at hdep
    have := List.all_eq_true.1 hdep i (List.mem_range.2 hi)
    rcases Bool.or_eq_true_iff.1 this with h | h
    · exact waits1_on h hp
    · obtain ⟨j, _, h2⟩ := List.any_eq_true.1 h
      obtain ⟨h3, h4⟩ := Bool.and_eq_true_iff.1 h2
      have hj := waits1_on h3 hp
      cases ho : ops[j]? with
      | none => rw [ho] at h4; cases h4
      | some o =>
        rw [ho] at h4
        exact waits1_on h4 (fun e he hb => hcl j o ho hj e he hb)
  refine wp_region_inv hm hb (fun f a w => (f L = false → I f a w) ∧ (f L = true → Q .normal a w)) ⟨fun _ => hI, fun h => by cases h⟩ (fun f a w h hcl i o ho hf hp => ?_) (fun f a w h hall hfar => h.2 (hall L (by omega)))
  have hlt : i < ops.size := (Array.getElem?_eq_some_iff.1 ho).1
  by_cases hiL : i = L
  · subst hiL
    have hall : ∀ j < i, f j = true := fun j hj => hdeps f hcl (by rw [hoL] at ho; cases ho; exact hp) j hj
    refine wpOp_mono (fun a' w' h' => ⟨fun h3 => ?_, fun _ => h'⟩) (hfin f a w (h.1 hf) hall)
    rw [upd_eq] at h3
    cases h3
  · have hfL : f L = false := by
      cases hfl : f L with
      | false => rfl
      | true =>
        have := hdeps f hcl (fun e he hb => hcl L _ hoL hfl e he hb) i (by omega)
        rw [hf] at this
        cases this
    have h1 := EachOp.get (ops.toList.take L) 0 hstep i o (by rw [List.getElem?_take, if_pos (by omega)]; simpa using ho)
    rw [Nat.zero_add] at h1
    refine wpOp_mono (fun a' w' h' => ⟨fun _ => h', fun h3 => ?_⟩) (h1 f a w (h.1 hfL) hf hp (fun j o' ho' hany => ?_) hcl)
    · rw [upd_ne f (fun e => hiL e.symm), hfL] at h3
      cases h3
    · rw [List.any_eq_true] at hany
      obtain ⟨e, he, h2⟩ := hany
      simp only [Bool.and_eq_true, beq_iff_eq] at h2
      cases hj : f j with
      | false => rfl
      | true =>
        have h3 := hcl j o' ho' hj e (by simpa using he) h2.1
        rw [h2.2, hf] at h3
        cases h3

/-- What a fact on a value outlives: memory that grows. -/
def Mono (R : World → Value → Prop) : Prop := ∀ w w' v, R w v → Ext w w' → R w' v
/-- Stages that make memory alone: what each has yielded. -/
structure MonoW (w0 : World) (Rs : List (World → Value → Prop)) (xs : List Value) (u : World) : Prop where
  ext : Ext w0 u
  at_ : ∀ (i : Nat) (v : Value) (R : World → Value → Prop), xs[i]? = some v → Rs[i]? = some R → R u v
theorem MonoW.start (w0 : World) (Rs : List (World → Value → Prop)) {u : World} (h : Ext w0 u) : MonoW w0 Rs [] u := ⟨h, fun i v R h => by simp at h⟩
theorem MonoW.push {w0 u u' : World} {Rs : List (World → Value → Prop)} {xs : List Value} (h : MonoW w0 Rs xs u) (hm : ∀ R ∈ Rs, Mono R) (hx : Ext u u') {v : Value} (hv : ∀ R, Rs[xs.length]? = some R → R u' v) : MonoW w0 Rs (xs ++ [v]) u' := by
  refine ⟨h.ext.trans hx, fun i y R hy hR => ?_⟩
  by_cases hi : i < xs.length
  · rw [List.getElem?_append_left hi] at hy
    exact hm R (List.mem_of_getElem? hR) _ _ _ (h.at_ i y R hy hR) hx
  · have he : i = xs.length := by
      have := (List.getElem?_eq_some_iff.1 hy).1
      rw [List.length_append, List.length_singleton] at this
      omega
    subst he
    rw [List.getElem?_append_right (Nat.le_refl _)] at hy
    simp at hy
    subst hy
    exact hv R hR
theorem MonoW.get {w0 u : World} {Rs : List (World → Value → Prop)} {xs : List Value} (h : MonoW w0 Rs xs u) (j : Nat) (hj : j < xs.length) {R : World → Value → Prop} (hR : Rs[j]? = some R) : R u (xs.getD j undef) := by
  have hx : xs[j]? = some xs[j] := List.getElem?_eq_getElem hj
  have := h.at_ j _ R hx hR
  rw [List.getD_eq_getElem?_getD, hx]
  exact this
/-- A row of bytes of the call's own, as a fact on a value. -/
def isOwn (B : Nat) (bs : List UInt8) : World → Value → Prop := fun w v => Own B w v bs
theorem isOwn_mono (B : Nat) (bs : List UInt8) : Mono (isOwn B bs) := fun w w' v h hx => Own.ext h hx
def isVal (x : Value) : World → Value → Prop := fun _ v => v = x
theorem isVal_mono (x : Value) : Mono (isVal x) := fun _ _ _ h _ => h
theorem mono_two {R S : World → Value → Prop} (h : Mono R) (k : Mono S) : ∀ T ∈ [R, S], Mono T := by
  intro T hT
  simp only [List.mem_cons, List.not_mem_nil, or_false] at hT
  rcases hT with rfl | rfl
  · exact h
  · exact k
end Go.Proofs.YtcnhbodemabbdaaDoor
/- A region that draws its order, by facts on what its operations have yielded: values, rows of bytes of the call's own, anything that outlives growing memory; a fact may die at an operation. -/
namespace Go.Proofs.YtcnhbodemabbdaaDoor
open Go.RowKit
set_option linter.unusedVariables false

/-- What is known of a value. -/
inductive Fk where
  | val (v : Value)
  | own (bs : List UInt8)
  | any (R : World → Value → Prop) (hm : Mono R)
def Fk.R (B : Nat) : Fk → World → Value → Prop
  | .val x => isVal x
  | .own bs => isOwn B bs
  | .any R _ => R
theorem Fk.mono (B : Nat) : ∀ k : Fk, Mono (k.R B)
  | .val x => isVal_mono x
  | .own bs => isOwn_mono B bs
  | .any R hm => hm
def Fk.isV : Fk → Bool
  | .val _ => true
  | _ => false
structure Fa where
  born : Nat
  dies : Option Nat
  slot : Nat
  k : Fk
def Fa.act (f : Nat → Bool) (p : Fa) : Prop := f p.born = true ∧ ∀ d, p.dies = some d → f d = false
structure FInv (D : List Nat) (a0 : Act) (w0 : World) (F : List Fa) (f : Nat → Bool) (a : Act) (w : World) : Prop where
  agree : Agree D a0 a
  ext : Ext w0 w
  facts : ∀ p ∈ F, p.act f → p.k.R w0.heap.size w (a.eval (.tmp p.slot))
theorem FInv.start {D : List Nat} {a0 : Act} {w0 : World} {F : List Fa} : FInv D a0 w0 F (fun _ => false) a0 w0 :=
  ⟨Agree.refl _ _, Ext.refl _, fun _ _ h => by cases h.1⟩

/-- The table's check at operation i, which writes slot d: nobody else's slot, but what is born or dies here. -/
def faTab (D : List Nat) (F : List Fa) (i : Nat) (d : Option Nat) : Bool :=
  (match d with | some d => D.contains d | none => true) && (F.all fun p => p.born == i || p.dies == some i || some p.slot != d)
section
variable {P : Program} {ops : Array Oper} {Q : Exit → Act → World → Prop} {D : List Nat} {a0 a : Act} {w0 w : World} {F : List Fa} {f : Nat → Bool} {i : Nat} {o : Oper}

theorem FInv.fact (h : FInv D a0 w0 F f a w) (j : Nat) {p : Fa} (hj : F[j]? = some p) (h1 : f p.born = true) (h2 : ∀ d, p.dies = some d → f d = false) : p.k.R w0.heap.size w (a.eval (.tmp p.slot)) :=
  h.facts p (List.mem_of_getElem? hj) ⟨h1, h2⟩
theorem FInv.at_ (h : FInv D a0 w0 F f a w) (j : Nat) {i d : Nat} {v : Value} (hj : F[j]? = some ⟨i, none, d, .val v⟩) (hf : f i = true) : a.eval (.tmp d) = v :=
  h.fact j hj hf (fun d h => by cases h)
theorem FInv.att (h : FInv D a0 w0 F f a w) (j : Nat) {i d : Nat} {v : Value} (hj : F[j]? = some ⟨i, none, d, .val v⟩) (hf : f i = true) : a.tmps[d]?.getD undef = v := by
  have := h.at_ j hj hf
  simp only [Act.eval, Array.getD_eq_getD_getElem?] at this
  exact this
theorem FInv.own (h : FInv D a0 w0 F f a w) (j : Nat) {i d : Nat} {dies : Option Nat} {bs : List UInt8} (hj : F[j]? = some ⟨i, dies, d, .own bs⟩) (hf : f i = true) (h2 : ∀ d, dies = some d → f d = false) : Own w0.heap.size w (a.eval (.tmp d)) bs :=
  h.fact j hj hf h2
theorem FInv.put (h : FInv D a0 w0 F f a w) (d : Option Nat) (v : Value) {w' : World} (ht : faTab D F i d = true) (hx : Ext w0 w')
    (hkeep : ∀ p ∈ F, p.born ≠ i → p.dies ≠ some i → p.act f → ∀ x, p.k.R w0.heap.size w x → p.k.R w0.heap.size w' x)
    (hnew : ∀ p ∈ F, p.born = i → p.k.R w0.heap.size w' ((a.put d v).eval (.tmp p.slot))) : FInv D a0 w0 F (upd f i) (a.put d v) w' := by
  simp only [faTab, Bool.and_eq_true] at ht
  refine ⟨?_, hx, fun p hp hact => ?_⟩
  · cases d with
    | none => exact h.agree
    | some d => exact h.agree.put (by simpa using ht.1) v
  · by_cases hb : p.born = i
    · exact hnew p hp hb
    · have hdi : p.dies ≠ some i := fun e => by
        have := hact.2 i e
        rw [upd_eq] at this
        cases this
      have hact' : p.act f := ⟨by rw [← upd_ne f hb]; exact hact.1, fun d' hd' => by
        have h3 := hact.2 d' hd'
        rwa [upd_ne f (fun e => hdi (by rw [hd', e]))] at h3⟩
      have hs := List.all_eq_true.1 ht.2 p hp
      simp only [Bool.or_eq_true, beq_iff_eq, bne_iff_ne] at hs
      have hsl : some p.slot ≠ d := by
        rcases hs with (e | e) | e
        · exact absurd e hb
        · exact absurd e hdi
        · exact e
      rw [eval_put_slot hsl]
      exact hkeep p hp hb hdi hact' _ (h.facts p hp hact')
/-- An operation behind which memory has only grown. -/
theorem FInv.stepG (h : FInv D a0 w0 F f a w) (ho : ops[i]? = some o) (hw : Region.wanted o (yielded ops a.tmps) = true) (d : Option Nat) (hod : o.dst = d)
    (ht : faTab D F i d = true) (hwp : o.wp P a w (fun a' w' => ∃ v, a' = a.put d v ∧ Ext w w' ∧ ∀ p ∈ F, p.born = i → p.k.R w0.heap.size w' ((a.put d v).eval (.tmp p.slot))) Q) : wpOp P ops Q i (FInv D a0 w0 F (upd f i)) a w := by
  refine wpOp_yes ho hw (Oper.wp_mono ?_ hwp)
  rintro a' w' ⟨v, rfl, hx, hn⟩
  exact h.put d v ht (h.ext.trans hx) (fun p hp _ _ _ x hr => Fk.mono _ p.k _ _ _ hr hx) hn
theorem born_val {v : Value} {d : Nat} (hdl : d < a0.tmps.size) (h : FInv D a0 w0 F f a w) (hv : F.filter (·.born == i) = [⟨i, none, d, .val v⟩]) (w' : World) : ∀ p ∈ F, p.born = i → p.k.R w0.heap.size w' ((a.put (some d) v).eval (.tmp p.slot)) := by
  intro p hp hb
  have hm : p ∈ F.filter (·.born == i) := List.mem_filter.2 ⟨hp, by simpa using hb⟩
  rw [hv, List.mem_singleton] at hm
  subst hm
  exact eval_put_eq (by rw [h.agree.2.1]; exact hdl)
/-- An operation that only yields a value known ahead. -/
theorem FInv.yieldG (h : FInv D a0 w0 F f a w) (ho : ops[i]? = some o) (hw : Region.wanted o (yielded ops a.tmps) = true) (d : Nat) (hod : o.dst = some d) (hdl : d < a0.tmps.size)
    (ht : faTab D F i (some d) = true) (v : Value) (hv : F.filter (·.born == i) = [⟨i, none, d, .val v⟩]) (hrun : (execOp a.eval o).run P w = .ok (.value v) w) : wpOp P ops Q i (FInv D a0 w0 F (upd f i)) a w := by
  refine h.stepG ho hw (some d) hod ht (wp_yield hrun ?_)
  rw [hod]
  exact ⟨v, rfl, Ext.refl _, born_val hdl h hv w⟩
theorem FInv.skipG (h : FInv D a0 w0 F f a w) (ho : ops[i]? = some o) (hw : Region.wanted o (yielded ops a.tmps) = false) (d : Nat) (hod : o.dst = some d) (hdl : d < a0.tmps.size)
    (ht : faTab D F i (some d) = true) (hv : F.filter (·.born == i) = [⟨i, none, d, .val undef⟩]) : wpOp P ops Q i (FInv D a0 w0 F (upd f i)) a w := by
  refine wpOp_no ho hw ?_
  rw [hod]
  exact h.put (some d) undef ht h.ext (fun p hp _ _ _ x hr => hr) (born_val hdl h hv w)
/-- A call that yields a value known ahead. -/
theorem FInv.callG (h : FInv D a0 w0 F f a w) (ho : ops[i]? = some o) (hw : Region.wanted o (yielded ops a.tmps) = true) (d : Nat) (hod : o.dst = some d) (hdl : d < a0.tmps.size)
    (ht : faTab D F i (some d) = true) (v : Value) (hv : F.filter (·.born == i) = [⟨i, none, d, .val v⟩]) (G : FuncId) (xs : Array Operand) (ts : Array TypeId) (args : Array Value) (hop : o.op = .call { callee := .value (.func G), args := xs, argTypes := ts })
    (hF : (P.funcs[G]?).map (fun fn => (fn.name == "runtime.NumGoroutine", fn.body.isNone)) = some (false, false)) (ha : xs.map a.eval = args)
    (hc : Calls P G args w fun e w' => e = .returned v ∧ Ext w w') : wpOp P ops Q i (FInv D a0 w0 F (upd f i)) a w := by
  refine h.stepG ho hw (some d) hod ht (wp_call G xs ts args hop hF ha (hc.mono ?_))
  rintro e w' ⟨rfl, hx⟩
  refine ⟨v, rfl, ?_⟩
  rw [hod]
  exact ⟨v, rfl, hx, born_val hdl h hv w'⟩
theorem born_own {v : Value} {d : Nat} {dies : Option Nat} {bs : List UInt8} (hdl : d < a0.tmps.size) (h : FInv D a0 w0 F f a w) (hv : F.filter (·.born == i) = [⟨i, dies, d, .own bs⟩]) {w' : World} (ho : Own w0.heap.size w' v bs) : ∀ p ∈ F, p.born = i → p.k.R w0.heap.size w' ((a.put (some d) v).eval (.tmp p.slot)) := by
  intro p hp hb
  have hm : p ∈ F.filter (·.born == i) := List.mem_filter.2 ⟨hp, by simpa using hb⟩
  rw [hv, List.mem_singleton] at hm
  subst hm
  show Own w0.heap.size w' ((a.put (some d) v).eval (.tmp d)) bs
  rw [eval_put_eq (by rw [h.agree.2.1]; exact hdl)]
  exact ho
/-- A call that yields new bytes. -/
theorem FInv.callO (h : FInv D a0 w0 F f a w) (ho : ops[i]? = some o) (hw : Region.wanted o (yielded ops a.tmps) = true) (d : Nat) (hod : o.dst = some d) (hdl : d < a0.tmps.size)
    (ht : faTab D F i (some d) = true) (dies : Option Nat) (bs : List UInt8) (hv : F.filter (·.born == i) = [⟨i, dies, d, .own bs⟩]) (G : FuncId) (xs : Array Operand) (ts : Array TypeId) (args : Array Value) (hop : o.op = .call { callee := .value (.func G), args := xs, argTypes := ts })
    (hF : (P.funcs[G]?).map (fun fn => (fn.name == "runtime.NumGoroutine", fn.body.isNone)) = some (false, false)) (ha : xs.map a.eval = args)
    (hc : Calls P G args w fun e w' => ∃ v, e = .returned v ∧ Own w.heap.size w' v bs ∧ Ext w w') : wpOp P ops Q i (FInv D a0 w0 F (upd f i)) a w := by
  refine h.stepG ho hw (some d) hod ht (wp_call G xs ts args hop hF ha (hc.mono ?_))
  rintro e w' ⟨v, rfl, hown, hx⟩
  refine ⟨v, rfl, ?_⟩
  rw [hod]
  exact ⟨v, rfl, hx, born_own hdl h hv (hown.lower h.ext.size)⟩
/-- A literal of bytes. -/
theorem FInv.litO (h : FInv D a0 w0 F f a w) (ho : ops[i]? = some o) (hw : Region.wanted o (yielded ops a.tmps) = true) (d : Nat) (hod : o.dst = some d) (hdl : d < a0.tmps.size)
    (ht : faTab D F i (some d) = true) (dies : Option Nat) (bs : List UInt8) (hv : F.filter (·.born == i) = [⟨i, dies, d, .own bs⟩]) (C : Array Value) (hC : C.toList = bv bs) (n : Nat) (hn : bs.length = n) (hn2 : n ≤ maxLen) {t : TypeId} (htt : t = 5) {s : Sem Value}
    (hs : execOp a.eval o = (do pure (Next.value (← s)))) (hrun : s.run P w = .ok (.slice (some ⟨w.heap.size, 0, none⟩) n n) (w.alloc (.cells C t))) : wpOp P ops Q i (FInv D a0 w0 F (upd f i)) a w := by
  subst htt hn
  refine h.stepG ho hw (some d) hod ht (wp_val hs hrun ?_)
  rw [hod]
  exact ⟨_, rfl, (Ext.refl _).alloc _, born_own hdl h hv (Own.lit bs C hC h.ext.size hn2)⟩
end
section
variable {ops : Array Oper} {Q : Exit → Act → World → Prop} {D : List Nat} {a0 a : Act} {w0 w : World} {F : List Fa} {f : Nat → Bool} {i : Nat} {o : Oper}
/-- append(x, s...): the row that x was is gone; no other row may be known. -/
theorem FInv.appS (h : FInv D a0 w0 F f a w) (hfi : f i = false) (ho : ops[i]? = some o) (hw : Region.wanted o (yielded ops a.tmps) = true) (d : Nat) (hod : o.dst = some d) (hdl : d < a0.tmps.size)
    (ht : faTab D F i (some d) = true) (hb : (F.all fun p => p.born == i || p.dies == some i || p.k.isV) = true) (dies : Option Nat) (bs : List UInt8) (y : ByteArray) (hv : F.filter (·.born == i) = [⟨i, dies, d, .own (bs ++ y.data.toList)⟩]) (s x : Nat)
    (hop : o.op = .call { callee := .builtin .append, args := #[.tmp s, .tmp x], argTypes := #[87, 9] }) (hown : Own w0.heap.size w (a.eval (.tmp s)) bs) (hx : a.eval (.tmp x) = .string y) (hlen : bs.length + y.size ≤ 140737488355328) :
    wpOp Tryd.prog ops Q i (FInv D a0 w0 F (upd f i)) a w := by
  refine wpOp_yes ho hw (wp_append_str w (.tmp s) (.tmp x) hop w0.heap.size _ bs rfl hown y hx hlen h.ext.size ?_)
  intro v' w' hown' hg
  rw [hod]
  refine h.put (some d) v' ht (hown.grows h.ext hg) (fun p hp h1 h2 _ z hr => ?_) (born_own hdl h hv hown')
  have h3 := List.all_eq_true.1 hb p hp
  simp only [Bool.or_eq_true, beq_iff_eq] at h3
  rcases h3 with (e | e) | e
  · exact absurd e h1
  · exact absurd e h2
  · cases hk : p.k with
    | val v => rw [hk] at hr; exact hr
    | own bs => rw [hk] at e; cases e
    | any R hm => rw [hk] at e; cases e
end
end Go.Proofs.YtcnhbodemabbdaaDoor
