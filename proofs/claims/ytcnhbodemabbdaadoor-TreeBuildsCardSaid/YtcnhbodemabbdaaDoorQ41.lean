/- Arms of a plain walk: literals of one element, structs built of given parts, x[k:] told to the letter, guarded values. No program here. -/
import Derived.Test.YtcnhbodemabbdaaDoorQ27
namespace Go.Proofs.YtcnhbodemabbdaaDoor
open Go.RowKit
set_option linter.unusedVariables false

theorem wpList_lit1 {P : Program} {w : World} {ops : Array Oper} {rest : List Oper} {o : Oper} {a : Act} {Q : Exit → Act → World → Prop} (hgd : o.guard = none) {t T : TypeId} (x : Operand) (ho : o.op = .buildSlice t 1 #[(0, x)]) (v : Value) (hx : a.eval x = v) (cs : Array Value)
    (hrun : (Instr.buildSlice t 1 #[(0, v)]).run P w = .ok (.slice (some ⟨w.heap.size, 0, none⟩) 1 1) (w.alloc (.cells cs T)))
    (h : wpList P ops Q rest (a.put o.dst (.slice (some ⟨w.heap.size, 0, none⟩) 1 1)) (w.alloc (.cells cs T))) : wpList P ops Q (o :: rest) a w :=
  wpList_plain hgd fun _ hK => wp_val (exec_buildSlice ho (by rw [arr1]; simp only [hx])) hrun (hK _ _ h)
theorem wpList_build1 {P : Program} {w : World} {ops : Array Oper} {rest : List Oper} {o : Oper} {a : Act} {Q : Exit → Act → World → Prop} (hgd : o.guard = none) {t : TypeId} (i : Nat) (x : Operand) (ho : o.op = .build t #[(i, x)]) (v u : Value) (hx : a.eval x = v)
    (hrun : (Instr.build t #[(i, v)]).run P w = .ok u w)
    (h : wpList P ops Q rest (a.put o.dst u) w) : wpList P ops Q (o :: rest) a w :=
  wpList_plain hgd fun _ hK => wp_val (exec_build ho (by rw [arr1]; simp only [hx])) hrun (hK _ _ h)
theorem wpList_build2 {P : Program} {w : World} {ops : Array Oper} {rest : List Oper} {o : Oper} {a : Act} {Q : Exit → Act → World → Prop} (hgd : o.guard = none) {t : TypeId} (i j : Nat) (x y : Operand) (ho : o.op = .build t #[(i, x), (j, y)]) (v z u : Value) (hx : a.eval x = v) (hy : a.eval y = z)
    (hrun : (Instr.build t #[(i, v), (j, z)]).run P w = .ok u w)
    (h : wpList P ops Q rest (a.put o.dst u) w) : wpList P ops Q (o :: rest) a w :=
  wpList_plain hgd fun _ hK => wp_val (exec_build ho (by rw [arr2]; simp only [hx, hy])) hrun (hK _ _ h)
theorem wpList_slice_fromE {P : Program} {w : World} {ops : Array Oper} {rest : List Oper} {o : Oper} {a : Act} {Q : Exit → Act → World → Prop} (hgd : o.guard = none) (t e : TypeId) (x y : Operand) (ho : o.op = .slice t x (some y) none none) (ht : P.underlying t = some (.slice e)) (sz : Nat) (hs : (P.info? e).map (·.size) = some sz)
    (A : Option Addr) (n c k : Nat) (kk : IntKind) (hx : a.eval x = .slice A n c) (hy : a.eval y = .int kk k) (hk : k ≤ n) (hc : n ≤ c) (A2 : Option Addr) (hA2 : A2 = (if c = k then A else A.map (·.add (k * sz))))
    (hK : wpList P ops Q rest (a.put o.dst (.slice A2 (n - k) (c - k))) w) : wpList P ops Q (o :: rest) a w :=
  wpList_plain hgd fun _ hk' => by
    have hr := run_slice_from (P := P) (w := w) t e ht sz hs A n c k hk hc kk
    rw [← hA2] at hr
    unfold Oper.wp execOp
    simp only [ho, hx, hy, Option.map_some, Option.map_none, Sem.run_bind, hr, Result.andThen_ok, Sem.run_pure]
    exact hk' _ _ hK
theorem wpList_build0 {P : Program} {w : World} {ops : Array Oper} {rest : List Oper} {o : Oper} {a : Act} {Q : Exit → Act → World → Prop} (hgd : o.guard = none) {t : TypeId} (u : Value) (ho : o.op = .build t #[])
    (hrun : (Instr.build t #[]).run P w = .ok u w)
    (h : wpList P ops Q rest (a.put o.dst u) w) : wpList P ops Q (o :: rest) a w :=
  wpList_plain hgd fun _ hK => wp_val (exec_build ho (by rw [arr0])) hrun (hK _ _ h)
theorem wpList_yield {P : Program} {ops : Array Oper} {rest : List Oper} {op : Oper} {a : Act} {w : World} {Q : Exit → Act → World → Prop} (hgd : op.guard = none)
    (v : Value) (hr : (execOp a.eval op).run P w = .ok (.value v) w) (h : wpList P ops Q rest (a.put op.dst v) w) : wpList P ops Q (op :: rest) a w :=
  wpList_plain hgd fun _ hK => wp_yield hr (hK _ _ h)
theorem wpList_yield_g {P : Program} {ops : Array Oper} {rest : List Oper} {op : Oper} {a : Act} {w : World} {Q : Exit → Act → World → Prop} {g d' : Nat} {b : Bool} (hgd : op.guard = some (g, b)) (hd' : (ops[g]?).bind (·.dst) = some d') (hv : a.eval (.tmp d') = .bool b)
    (v : Value) (hr : (execOp a.eval op).run P w = .ok (.value v) w) (h : wpList P ops Q rest (a.put op.dst v) w) : wpList P ops Q (op :: rest) a w :=
  wpList_step fun K hK => by
    rw [if_pos (wanted_yes hgd hd' hv)]
    exact wp_yield hr (hK _ _ h)
end Go.Proofs.YtcnhbodemabbdaaDoor
