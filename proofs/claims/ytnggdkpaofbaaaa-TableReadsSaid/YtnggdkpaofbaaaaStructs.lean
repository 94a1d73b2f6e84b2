/- Rows of structs: how one is read, loaded, stored. Program-free but for names. -/
import Derived.Test.YtnggdkpaofbaaaaArr
import Derived.Deep.MidRow
namespace Go.Proofs.Ytnggdkpaofbaaaa
open Go.RowKit
set_option linter.unusedVariables false

/-- A row of structs of sz cells each. -/
def Row (w : World) (a : Option Addr) (sz : Nat) (css : List (List Value)) : Prop :=
  ∀ i cs, css[i]? = some cs → cs.length = sz ∧ ∃ x, a = some x ∧ ∀ j v, cs[j]? = some v → w.cell? ((x.add (i * sz)).add j) = some v
theorem Row.ext {w w' : World} {a : Option Addr} {sz : Nat} {css : List (List Value)} (h : Row w a sz css) (k : Ext w w') : Row w' a sz css :=
  fun i p hp => let ⟨hl, x, hx, hc⟩ := h i p hp; ⟨hl, x, hx, fun j v hv => k.cell (hc j v hv)⟩
theorem Row.nil (w : World) (a : Option Addr) (sz : Nat) : Row w a sz [] := fun i p hp => by simp at hp
theorem Row.get {w : World} {a : Option Addr} {sz : Nat} {css : List (List Value)} (h : Row w a sz css) {i : Nat} (hi : i < css.length) :
    ∃ x, a = some x ∧ ∀ j v, css[i][j]? = some v → w.cell? ((x.add (i * sz)).add j) = some v := (h i _ (List.getElem?_eq_getElem hi)).2
theorem flat_len {sz : Nat} : ∀ (css : List (List Value)), (∀ cs ∈ css, cs.length = sz) → css.flatten.length = css.length * sz
  | [], _ => by simp
  | c :: css, h => by
    rw [List.flatten_cons, List.length_append, flat_len css (fun x hx => h x (List.mem_cons_of_mem _ hx)), h c (List.mem_cons_self ..), List.length_cons, Nat.succ_mul, Nat.add_comm]
theorem flat_get {sz : Nat} : ∀ (css : List (List Value)), (∀ cs ∈ css, cs.length = sz) → ∀ i j (cs : List Value) v, css[i]? = some cs → cs[j]? = some v → css.flatten[i * sz + j]? = some v
  | [], _, i, j, cs, v, hi, _ => by simp at hi
  | c :: css, h, 0, j, cs, v, hi, hj => by
    simp only [List.getElem?_cons_zero, Option.some.injEq] at hi
    subst hi
    rw [List.flatten_cons, Nat.zero_mul, Nat.zero_add, List.getElem?_append_left (List.getElem?_eq_some_iff.1 hj).1]
    exact hj
  | c :: css, h, i + 1, j, cs, v, hi, hj => by
    have hl := h c (List.mem_cons_self ..)
    rw [List.flatten_cons, List.getElem?_append_right (by rw [hl, Nat.succ_mul]; omega)]
    have e : (i + 1) * sz + j - c.length = i * sz + j := by rw [hl, Nat.succ_mul]; omega
    rw [e]
    exact flat_get css (fun x hx => h x (List.mem_cons_of_mem _ hx)) i j cs v (by simpa using hi) hj
/-- A row of cells, as structs. -/
theorem Cells.row {w : World} {a : Option Addr} {sz : Nat} {css : List (List Value)} (h : Cells w a css.flatten) (hl : ∀ cs ∈ css, cs.length = sz) (hs : 0 < sz) : Row w a sz css := by
  intro i cs hi
  have hlc := hl cs (List.mem_of_getElem? hi)
  refine ⟨hlc, ?_⟩
  obtain ⟨v0, hv0⟩ : ∃ v, cs[0]? = some v := ⟨_, List.getElem?_eq_getElem (by omega)⟩
  obtain ⟨x, rfl, _⟩ := h _ _ (flat_get css hl i 0 cs v0 hi hv0)
  refine ⟨x, rfl, fun j v hj => ?_⟩
  obtain ⟨y, hy, hc⟩ := h _ _ (flat_get css hl i j cs v hi hj)
  cases hy
  rw [add_add]
  exact hc

section
variable {P : Program}
theorem run_loadVar_row_ (w : World) (ad : Addr) (ty : TypeId) (cs : List Value) (d : TypeDesc) (hc : ∀ j v, cs[j]? = some v → w.cell? (ad.add j) = some v)
    (hu : P.underlying ty = some d) (hd : d.isRow = true) (hi : (P.info? ty).map (·.size) = some cs.length) :
    (loadVar ty ad).run P w = .ok (.agg cs.toArray) w := by
  have hl : (loadCells ad cs.length).run P w = .ok cs.toArray w := run_loadCells_list (P := P) w ad cs hc
  cases hq : P.info? ty with
  | none => simp [hq] at hi
  | some i =>
    have hs : i.size = cs.length := by simpa [hq] using hi
    have hagg : (isAgg ty).run P w = .ok true w := by
      unfold isAgg
      rw [Sem.run_bind, run_underlying hu w]
      cases d <;> simp_all
    simp [loadVar, Sem.run_bind, hagg, sizeOf, typeInfo, hq, hs, hl]
theorem run_loadAt_row (w : World) (ad : Addr) (ty : TypeId) (cs : List Value) (d : TypeDesc) (hc : ∀ j v, cs[j]? = some v → w.cell? (ad.add j) = some v)
    (hu : P.underlying ty = some d) (hd : d.isRow = true) (hi : (P.info? ty).map (·.size) = some cs.length) :
    (Instr.loadAt ty (.pointer (some ad))).run P w = .ok (.agg cs.toArray) w := by
  simp only [Instr.loadAt, Instr.sureAddr, Sem.run_bind, Sem.run_pure, Result.andThen_ok, run_loadVar_row_ w ad ty cs d hc hu hd hi]
theorem wp_load_row_ {op : Oper} {a : Act} {w : World} {K : Act → World → Prop} {Q : Exit → Act → World → Prop} (ty : TypeId) (x : Operand) (ho : op.op = .load ty x)
    (ad : Addr) (hx : a.eval x = .pointer (some ad)) (cs : List Value) (d : TypeDesc) (hc : ∀ j v, cs[j]? = some v → w.cell? (ad.add j) = some v)
    (hu : P.underlying ty = some d) (hd : d.isRow = true) (hi : (P.info? ty).map (·.size) = some cs.length)
    (h : K (a.put op.dst (.agg cs.toArray)) w) : op.wp P a w K Q := by
  unfold Oper.wp execOp
  simp only [ho, hx, Instr.loadAt, Instr.sureAddr, Sem.run_bind, Sem.run_pure, Result.andThen_ok, run_loadVar_row_ w ad ty cs d hc hu hd hi]
  exact h
theorem wpList_load_row_ {ops : Array Oper} {rest : List Oper} {op : Oper} {a : Act} {w : World} {Q : Exit → Act → World → Prop} (hgd : op.guard = none) (ty : TypeId) (x : Operand) (ho : op.op = .load ty x)
    (ad : Addr) (hx : a.eval x = .pointer (some ad)) (cs : List Value) (d : TypeDesc) (hc : ∀ j v, cs[j]? = some v → w.cell? (ad.add j) = some v)
    (hu : P.underlying ty = some d) (hd : d.isRow = true) (hi : (P.info? ty).map (·.size) = some cs.length)
    (h : wpList P ops Q rest (a.put op.dst (.agg cs.toArray)) w) : wpList P ops Q (op :: rest) a w :=
  wpList_plain hgd fun _ hK => wp_load_row_ ty x ho ad hx cs d hc hu hd hi (hK _ _ h)
end
end Go.Proofs.Ytnggdkpaofbaaaa
