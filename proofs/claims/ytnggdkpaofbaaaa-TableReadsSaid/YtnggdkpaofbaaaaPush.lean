/- A struct in memory with rows of its own, and 'x.F = append(x.F, y)' in whatever order: the words for it. -/
import Derived.Test.YtnggdkpaofbaaaaChain
namespace Go.Proofs.Ytnggdkpaofbaaaa
open Go.RowKit
set_option linter.unusedVariables false

theorem results_row_tmp {P : Program} {fn : Func} {p u : Tmp} {ty : TypeId} (h : fn.results = #[.cell p ty, .tmp u]) (tmps : Array Value) (w : World) (g : Nat) (t : TypeId) (cs : Array Value) (d : TypeDesc)
    (hp : tmps.getD p undef = .pointer (some ⟨g, 0, none⟩)) (hg : Blk w g t cs)
    (hu : P.underlying ty = some d) (hd : (match d with | .struct _ | .array _ _ => true | _ => false) = true) (hi : (P.info? ty).map (·.size) = some cs.size) :
    (results fn tmps).run P w = .ok (.tuple #[.agg cs, tmps.getD u undef]) w := by
  rw [results_cell_tmp h]
  simp [hp, asAddr, run_loadVar_row w g t ty cs (0, 0) d hg hu hd hi]
/-- As wp_region_ops; what stands ahead of what has come up has come up. -/
theorem wp_region_opsC {P : Program} {ops : Array Oper} {Q : Exit → Act → World → Prop} {id : Nat} {a : Act} {w : World} (I : (Nat → Bool) → Act → World → Prop) (hm : P.follows .mixedOrders = true) (hb : backward .any ops = true)
    (hI : I (fun _ => false) a w.drew)
    (hstep : EachOp (fun i o => ∀ f a w, I f a w → f i = false → (∀ e ∈ o.after, Region.binds .any e = true → f e.on = true) → (∀ j o', ops[j]? = some o' → (o'.after.toList.any fun e => Region.binds .any e && e.on == i) = true → f j = false) → ClosedF .any ops f → wpOp P ops Q i (I (upd f i)) a w) 0 ops.toList)
    (hdone : ∀ f a w, I f a w → (∀ i < ops.size, f i = true) → (∀ i, ops.size ≤ i → f i = false) → Q .normal a w) : (Code.region id ops true).wp P Q a w := by
  refine wp_region_inv hm hb I hI (fun f a w h hcl i o ho hf hp => ?_) hdone
  have h1 := EachOp.get ops.toList 0 hstep i o (by simpa using ho)
  rw [Nat.zero_add] at h1
  refine h1 f a w h hf hp (fun j o' ho' hany => ?_) hcl
  rw [List.any_eq_true] at hany
  obtain ⟨e, he, h2⟩ := hany
  simp only [Bool.and_eq_true, beq_iff_eq] at h2
  cases hj : f j with
  | false => rfl
  | true =>
    have h3 := hcl j o' ho' hj e (by simpa using he) h2.1
    rw [h2.2, hf] at h3
    cases h3
theorem pre_cl {ops : Array Oper} {f : Nat → Bool} (h : ClosedF .any ops f) {j : Nat} {o : Oper} (ho : ops[j]? = some o) (hf : f j = true) (k : Nat) (hk : (o.after.toList.any fun e => Region.binds .any e && e.on == k) = true) : f k = true := by
  rw [List.any_eq_true] at hk
  obtain ⟨e, he, h1⟩ := hk
  have he : e ∈ o.after := by simpa using he
  simp only [Bool.and_eq_true, beq_iff_eq] at h1
  rw [← h1.2]
  exact h j o ho hf e he h1.1
theorem own_kept {w w' : World} {base : Nat} {e : TypeId} {size n : Nat} {v : Value} {xs : List Value} (h : w.ownsRow base e size v n xs) {row : Option Nat} (hg : w.grownBy w' row) (hne : ∀ k, v.ownBlock = some k → row ≠ some k) : w'.ownsRow base e size v n xs := by
  refine World.ownsRow.kept h hg ?_
  cases hv : v.ownBlock with
  | none => exact .inl rfl
  | some k => exact .inr fun e => hne k hv e.symm

/-- A row: its element's type and size, how many, its cells, its value. -/
structure ORow where
  E : TypeId
  sz : Nat
  n : Nat
  xs : List Value
  v : Value
/-- The struct at gN holds nc; its rows are owned and lie apart; RP: what else holds of memory below the rows. -/
structure OW (w0 : World) (B : Nat) (RP : World → Prop) (gN : Nat) (T : TypeId) (nc : Array Value) (rows : List ORow) (w : World) : Prop where
  ext : Ext w0 w
  rd : RP w
  nod : Blk w gN T nc
  own : ∀ (i : Nat) (r : ORow), rows[i]? = some r → w.ownsRow B r.E r.sz r.v r.n r.xs
  apart : ∀ (i j : Nat) (r s : ORow), i ≠ j → rows[i]? = some r → rows[j]? = some s → ∀ k, r.v.ownBlock = some k → s.v.ownBlock ≠ some k
  hB : B ≤ w.heap.size
/-- What outlives the growing of rows from B on. -/
def Stays (B : Nat) (RP : World → Prop) : Prop := ∀ w w' row, RP w → w.grownBy w' row → (∀ k, row = some k → B ≤ k) → RP w'

section
variable {w0 w w' : World} {B gN : Nat} {RP RP' : World → Prop} {T : TypeId} {nc nc' : Array Value} {rows : List ORow}
theorem Stays.ext (h : Stays B RP) (hr : RP w) (k : Ext w w') : RP w' := h w w' none hr (grown_of_ext k) (fun _ h => by cases h)
theorem OW.more (h : OW w0 B RP gN T nc rows w) (hs : Stays B RP) (k : Ext w w') : OW w0 B RP gN T nc rows w' :=
  ⟨h.ext.trans k, hs.ext h.rd k, h.nod.ext k, fun i r hi => own_ext (h.own i r hi) k, h.apart, Nat.le_trans h.hB k.size⟩
/-- What lies below the rows is turned. -/
theorem OW.turn (h : OW w0 B RP gN T nc rows w) {row : Option Nat} (hg : w.grownBy w' row) (hrd : RP' w') (hw : ∀ k, row = some k → w0.heap.size ≤ k ∧ k < B ∧ k ≠ gN) : OW w0 B RP' gN T nc rows w' :=
  ⟨Below.grown h.ext hg h.ext.size (fun k hk => (hw k hk).1), hrd, h.nod.grown hg (fun e => (hw gN e.symm).2.2 rfl), fun i r hi => own_kept (h.own i r hi) hg fun k hk e => by
    have h1 := (own_lt (h.own i r hi) hk).1
    have h2 := (hw k e).2.1
    omega, h.apart, Nat.le_trans h.hB hg.size⟩
/-- A row has grown. -/
theorem OW.app (h : OW w0 B RP gN T nc rows w) (hs : Stays B RP) (hgN : gN < B) (hw0 : w0.heap.size ≤ B) {i : Nat} {r : ORow} (hi : rows[i]? = some r) {v' : Value} {n' : Nat} {xs' : List Value} (ho : w'.ownsRow B r.E r.sz v' n' xs') (hg : w.grownBy w' r.v.ownBlock)
    (hf : v'.ownBlock = r.v.ownBlock ∨ v'.ownBlock = some w.heap.size) : OW w0 B RP gN T nc (rows.set i ⟨r.E, r.sz, n', xs', v'⟩) w' := by
  have hrow : ∀ k, r.v.ownBlock = some k → B ≤ k := fun k hk => (own_lt (h.own i r hi) hk).1
  have hil : i < rows.length := (List.getElem?_eq_some_iff.1 hi).1
  have hget : ∀ j s, (rows.set i ⟨r.E, r.sz, n', xs', v'⟩)[j]? = some s → (j = i ∧ s = ⟨r.E, r.sz, n', xs', v'⟩) ∨ (j ≠ i ∧ rows[j]? = some s) := by
    intro j s hj
    by_cases hji : j = i
    · subst hji
      rw [List.getElem?_set_self hil] at hj
      exact .inl ⟨rfl, (Option.some.inj hj).symm⟩
    · rw [List.getElem?_set_ne (Ne.symm hji)] at hj
      exact .inr ⟨hji, hj⟩
  have hnew : ∀ j s, j ≠ i → rows[j]? = some s → ∀ k, v'.ownBlock = some k → s.v.ownBlock ≠ some k := by
    intro j s hji hj k hk
    rcases hf with e | e
    · rw [e] at hk
      exact h.apart i j r s (Ne.symm hji) hi hj k hk
    · rw [e] at hk
      cases hk
      intro hk2
      have := (own_lt (h.own j s hj) hk2).2
      omega
  refine ⟨Below.grown h.ext hg h.ext.size (fun k hk => Nat.le_trans hw0 (hrow k hk)), hs w w' _ h.rd hg hrow, h.nod.grown hg (fun e => ?_), fun j s hj => ?_, fun j m s t hjm hj hm k hk => ?_, Nat.le_trans h.hB hg.size⟩
  · have := hrow gN e.symm
    omega
  · rcases hget j s hj with ⟨rfl, rfl⟩ | ⟨hji, hj⟩
    · exact ho
    · exact own_kept (h.own j s hj) hg fun k hk e => h.apart i j r s (Ne.symm hji) hi hj k e hk
  · rcases hget j s hj with ⟨e1, e2⟩ | ⟨hji, hj'⟩
    · rcases hget m t hm with ⟨e3, e4⟩ | ⟨hmi, hm'⟩
      · exact absurd (e1.trans e3.symm) hjm
      · rw [e2] at hk
        exact hnew m t hmi hm' k hk
    · rcases hget m t hm with ⟨e3, e4⟩ | ⟨hmi, hm'⟩
      · rw [e4]
        exact fun hk2 => hnew j s hji hj' k hk2 hk
      · exact h.apart j m s t hjm hj' hm' k hk
/-- The struct is written. -/
theorem OW.sto (h : OW w0 B RP gN T nc rows w) (hg : w.grownBy w' (some gN)) (hb : Blk w' gN T nc') (hrd : RP w') (hgN : gN < B) (hw : w0.heap.size ≤ gN) : OW w0 B RP gN T nc' rows w' :=
  ⟨Below.grown h.ext hg h.ext.size (fun k hk => by cases hk; exact hw), hrd, hb, fun i r hi => own_kept (h.own i r hi) hg fun k hk e => by
    cases e
    have h1 := (own_lt (h.own i r hi) hk).1
    omega, h.apart, Nat.le_trans h.hB hg.size⟩
theorem OW.row (h : OW w0 B RP gN T nc rows w) {i : Nat} {r : ORow} (hi : rows[i]? = some r) : w.ownsRow B r.E r.sz r.v r.n r.xs := h.own i r hi
end

/-- The stages of 'x.F = append(x.F, call)': x what the call answers, y what is appended. -/
def PushW (P0 P1 : World → Prop) (x : Value) (y : List Value) (P3 P4 : Value → World → Prop) : List Value → World → Prop
  | [], w => P0 w
  | [s], w => s = x ∧ P1 w
  | [s, l], w => s = x ∧ (∃ g, l = .slice (some ⟨g, 0, none⟩) 1 1 ∧ Cells w (some ⟨g, 0, none⟩) y) ∧ P1 w
  | [s, l, v], w => s = x ∧ P3 v w
  | [s, l, v, _], w => s = x ∧ P4 v w
  | _, _ => False
/-- The stages of 'x.F = append(x.F, y)'. -/
def PutW (P1 : World → Prop) (y : List Value) (P3 P4 : Value → World → Prop) : List Value → World → Prop
  | [], w => P1 w
  | [l], w => (∃ g, l = .slice (some ⟨g, 0, none⟩) 1 1 ∧ Cells w (some ⟨g, 0, none⟩) y) ∧ P1 w
  | [l, v], w => P3 v w
  | [l, v, _], w => P4 v w
  | _, _ => False
section
variable {P0 P1 : World → Prop} {x : Value} {y : List Value} {P3 P4 : Value → World → Prop} {w : World} {xs : List Value}
theorem PushW.ahead {N : World → Prop} (h : PushW P0 P1 x y P3 P4 xs w) (hl : xs.length ≤ 3) (h0 : ∀ w, P0 w → N w) (h1 : ∀ w, P1 w → N w) (h3 : ∀ v w, P3 v w → N w) : N w := by
  match xs, h, hl with
  | [], h, _ => exact h0 _ h
  | [s], h, _ => exact h1 _ h.2
  | [s, l], h, _ => exact h1 _ h.2.2
  | [s, l, v], h, _ => exact h3 _ _ h.2
  | s :: l :: v :: u :: q, h, hl => simp at hl
theorem PushW.first (h : PushW P0 P1 x y P3 P4 xs w) (hl : 0 < xs.length) : xs.getD 0 undef = x := by
  match xs, h, hl with
  | [], h, hl => simp at hl
  | [s], h, _ => exact h.1
  | [s, l], h, _ => exact h.1
  | [s, l, v], h, _ => exact h.1
  | [s, l, v, u], h, _ => exact h.1
  | s :: l :: v :: u :: q :: z, h, hl => exact h.elim
theorem PutW.ahead {N : World → Prop} (h : PutW P1 y P3 P4 xs w) (hl : xs.length ≤ 2) (h1 : ∀ w, P1 w → N w) (h3 : ∀ v w, P3 v w → N w) : N w := by
  match xs, h, hl with
  | [], h, _ => exact h1 _ h
  | [l], h, _ => exact h1 _ h.2
  | [l, v], h, _ => exact h3 _ _ h
  | l :: v :: u :: q, h, hl => simp at hl
variable {P : Program} {ops : Array Oper} {Q : Exit → Act → World → Prop} {D : List Nat} {a0 a : Act} {ps : List (Nat × Nat × Value)} {cs : List (Nat × Option Nat)} {W : List Value → World → Prop} {f : Nat → Bool} {i : Nat} {o : Oper}
/-- The chain has not come so far. -/
theorem CInv.before (h : CInv D a0 ps cs W f a w) (j : Nat) {c : Nat} {d : Option Nat} (hj : cs[j]? = some (c, d)) (hf : f c = false) : ∃ xs : List Value, W xs w ∧ xs.length ≤ j := by
  obtain ⟨xs, hW, h1, h2, h3⟩ := h.st
  have e := h1 j c d hj
  rw [hf] at e
  exact ⟨xs, hW, Nat.le_of_not_lt (of_decide_eq_false e.symm)⟩
theorem wp_store_cell {K : Act → World → Prop} (ty : TypeId) (x y : Operand) (ho : o.op = .store ty x y) (hod : o.dst = none) {p : Addr} {v : Value} {w' : World} (hx : a.eval x = .pointer (some p)) (hy : a.eval y = v)
    (hrun : (Instr.storeAt ty (.pointer (some p)) v).run P w = .ok () w') (hk : K a w') : o.wp P a w K Q := by
  unfold Oper.wp execOp
  simp only [ho, hx, hy, Sem.run_bind, hrun, Result.andThen_ok, Sem.run_pure]
  simpa [Oper.upon, hod, Act.put] using hk
theorem len1 {α : Type} {l : List α} (h : l.length = 1) : ∃ a, l = [a] := by
  match l, h with
  | [a], _ => exact ⟨a, rfl⟩
theorem len2 {α : Type} {l : List α} (h : l.length = 2) : ∃ a b, l = [a, b] := by
  match l, h with
  | [a, b], _ => exact ⟨a, b, rfl⟩
theorem len3 {α : Type} {l : List α} (h : l.length = 3) : ∃ a b c, l = [a, b, c] := by
  match l, h with
  | [a, b, c], _ => exact ⟨a, b, c, rfl⟩
theorem len4 {α : Type} {l : List α} (h : l.length = 4) : ∃ a b c d, l = [a, b, c, d] := by
  match l, h with
  | [a, b, c, d], _ => exact ⟨a, b, c, d, rfl⟩
theorem blk_set {w : World} {g : Nat} {t : TypeId} {cs : Array Value} (h : Blk w g t cs) (i : Nat) (u : Value) : Blk (w.setCell ⟨g, i, none⟩ u) g t (cs.setIfInBounds i u) := h.set i u
end
end Go.Proofs.Ytnggdkpaofbaaaa
