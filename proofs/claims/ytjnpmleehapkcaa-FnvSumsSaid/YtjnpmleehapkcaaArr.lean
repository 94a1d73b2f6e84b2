/- A block that is known whole: an array, a struct; its cells read, written, loaded and stored whole. -/
import Derived.Test.YtjnpmleehapkcaaBase
import Derived.Laws.Rows
import Derived.Laws.CopyRow
namespace Go.Proofs.Ytjnpmleehapkcaa
open Go.RowKit
set_option linter.unusedVariables false

/-- Block g is just the cells cs, of element type t, none of them frozen. -/
def Blk (w : World) (g : Nat) (t : TypeId) (cs : Array Value) : Prop := w.heap[g]? = some (.cells cs t (0, 0))

section
variable {w w' : World} {g : Nat} {t : TypeId} {cs : Array Value}
theorem Blk.lt (h : Blk w g t cs) : g < w.heap.size := (Array.getElem?_eq_some_iff.1 h).1
theorem Blk.cell (h : Blk w g t cs) (i : Nat) : w.cell? ⟨g, i, none⟩ = cs[i]? := cell_of_row w g i cs t (0, 0) h
theorem Blk.cell_ (h : Blk w g t cs) {i : Nat} (hi : i < cs.size) : w.cell? ⟨g, i, none⟩ = some cs[i] := by rw [h.cell, Array.getElem?_eq_getElem hi]
theorem Blk.frozen (h : Blk w g t cs) (i : Nat) : w.frozen? ⟨g, i, none⟩ = false := frozen_of_row w g i cs t h
theorem Blk.new (w : World) (t : TypeId) (cs : Array Value) : Blk (w.alloc (.cells cs t)) w.heap.size t cs := heap_alloc_new w _
theorem Blk.new_at {g : Nat} (hg : w.heap.size = g) (t : TypeId) (cs : Array Value) : Blk (w.alloc (.cells cs t)) g t cs := by subst hg; exact Blk.new w t cs
theorem Blk.alloc (h : Blk w g t cs) (o : Obj) : Blk (w.alloc o) g t cs := (Below.heap_alloc w o g h.lt).trans h
theorem Blk.drew (h : Blk w g t cs) : Blk w.drew g t cs := h
theorem Blk.drewN (h : Blk w g t cs) (n : Nat) : Blk (w.drewN n) g t cs := h
theorem Blk.set (h : Blk w g t cs) (i : Nat) (u : Value) : Blk (w.setCell ⟨g, i, none⟩ u) g t (cs.setIfInBounds i u) := heap_setCell_same w g i cs t u h
theorem Blk.far (h : Blk w g t cs) {p : Addr} (hp : g ≠ p.block) (u : Value) : Blk (w.setCell p u) g t cs := (heap_setCell_other w p g u hp).trans h
theorem Blk.ext (h : Blk w g t cs) (k : Ext w w') : Blk w' g t cs := (k.block g h.lt).trans h
theorem Blk.grown (h : Blk w g t cs) {row : Option Nat} (hg : w.grownBy w' row) (hne : some g ≠ row) : Blk w' g t cs := (hg.block g h.lt hne).trans h
theorem Blk.row (h : Blk w g t cs) (cs' : Array Value) : Blk (w.setRow g cs') g t cs' := setRow_heap w g cs cs' t (0, 0) h
theorem Blk.rowFar (h : Blk w g t cs) {k : Nat} (hk : g ≠ k) (cs' : Array Value) : Blk (w.setRow k cs') g t cs := (setRow_other w k g cs' hk).trans h
theorem Blk.cells (h : Blk w g t cs) : Cells w (some ⟨g, 0, none⟩) cs.toList := by
  intro i v hv
  refine ⟨_, rfl, ?_⟩
  rw [add_new, h.cell, ← Array.getElem?_toList]
  exact hv
theorem Blk.ne {g' : Nat} {t' : TypeId} {cs' : Array Value} (h : Blk w g t cs) (h' : Blk w g' t' cs') (hne : t ≠ t') : g ≠ g' := by
  rintro rfl
  unfold Blk at h h'
  rw [h] at h'
  injection h' with h'
  injection h' with _ ht
  exact hne ht
theorem Ext.grown_ {a : World} (h : Ext a w) {row : Option Nat} (hg : w.grownBy w' row) (hr : ∀ k, row = some k → a.heap.size ≤ k) : Ext a w' := Below.grown h hg h.size hr
theorem Ext.row {a : World} (h : Ext a w) (hg : a.heap.size ≤ g) (cs' : Array Value) : Ext a (w.setRow g cs') :=
  ⟨h.os, h.tape, h.output, by rw [size_setRow]; exact h.size, fun k hk => (setRow_other w g k cs' (by omega)).trans (h.block k hk)⟩
end

section
variable {P : Program} {w : World} {g : Nat} {t ty : TypeId} {cs : Array Value} {d : TypeDesc}
/-- The whole of an array or a struct, loaded. -/
theorem run_load_blk (h : Blk w g t cs) (hu : P.underlying ty = some d) (hd : (match d with | .struct _ | .array _ _ => true | _ => false) = true) (hi : (P.info? ty).map (·.size) = some cs.size) :
    (Instr.loadAt ty (.pointer (some ⟨g, 0, none⟩))).run P w = .ok (.agg cs) w := by
  simp only [Instr.loadAt, Instr.sureAddr, Sem.run_bind, Sem.run_pure, Result.andThen_ok, run_loadVar_row w g t ty cs (0, 0) d h hu hd hi]

/-- The whole of an array or a struct, stored. -/
theorem run_store_blk (h : Blk w g t cs) {vs : Array Value} (hs : vs.size = cs.size) (hi : (P.info? ty).map (·.size) = some cs.size) (h1 : ∀ v ∈ vs.toList, v.oneCell' = true) :
    (Instr.storeAt ty (.pointer (some ⟨g, 0, none⟩)) (.agg vs)).run P w = .ok () (w.setRow g vs) := by
  have hst := run_storeCells_at P g 0 t vs.toList 0 cs w h (by simp [hs]) h1
  cases hq : P.info? ty with
  | none => simp [hq] at hi
  | some i =>
    have hsz : i.size = cs.size := by simpa [hq] using hi
    simp only [Nat.add_zero, List.take_zero, List.nil_append, Nat.zero_add, Array.length_toList] at hst
    have hdrop : List.drop vs.size cs.toList = [] := by rw [hs]; exact List.drop_of_length_le (by simp)
    rw [hdrop, List.append_nil, Array.toArray_toList] at hst
    simp [Instr.storeAt, Instr.sureAddr, storeVar, Value.cells, sizeOf, typeInfo, hq, hsz, hs, hst]
end

section
variable {P : Program} {ops : Array Oper} {rest : List Oper} {o : Oper} {a : Act} {w : World} {Q : Exit → Act → World → Prop}
theorem wp_store_blk {K : Act → World → Prop} (ty : TypeId) (x y : Operand) (ho : o.op = .store ty x y) (hod : o.dst = none) (g : Nat) (vs : Array Value)
    (hx : a.eval x = .pointer (some ⟨g, 0, none⟩)) (hy : a.eval y = .agg vs) (t : TypeId) (cs : Array Value) (h : Blk w g t cs) (hs : vs.size = cs.size) (hi : (P.info? ty).map (·.size) = some cs.size) (h1 : ∀ v ∈ vs.toList, v.oneCell' = true)
    (hk : ∀ w', Blk w' g t vs → w.grownBy w' (some g) → K a w') : o.wp P a w K Q := by
  unfold Oper.wp execOp
  simp only [ho, hx, hy, Sem.run_bind, run_store_blk h hs hi h1, Result.andThen_ok, Sem.run_pure]
  have := hk (w.setRow g vs) (h.row vs) ⟨rfl, rfl, rfl, by simp, fun k _ hne => setRow_other w g k vs (fun e => hne (by rw [e]))⟩
  simpa [Oper.upon, hod, Act.put] using this
theorem wpList_store_blk (hgd : o.guard = none) (ty : TypeId) (x y : Operand) (ho : o.op = .store ty x y) (hod : o.dst = none) (g : Nat) (vs : Array Value)
    (hx : a.eval x = .pointer (some ⟨g, 0, none⟩)) (hy : a.eval y = .agg vs) (t : TypeId) (cs : Array Value) (h : Blk w g t cs) (hs : vs.size = cs.size) (hi : (P.info? ty).map (·.size) = some cs.size) (h1 : ∀ v ∈ vs.toList, v.oneCell' = true)
    (hk : ∀ w', Blk w' g t vs → w.grownBy w' (some g) → wpList P ops Q rest a w') : wpList P ops Q (o :: rest) a w :=
  wpList_plain hgd fun _ hK => wp_store_blk ty x y ho hod g vs hx hy t cs h hs hi h1 fun w' hb hg => hK _ _ (hk w' hb hg)
theorem wpList_load_blk (hgd : o.guard = none) (ty : TypeId) (x : Operand) (ho : o.op = .load ty x)
    (g : Nat) (hx : a.eval x = .pointer (some ⟨g, 0, none⟩)) (t : TypeId) (cs : Array Value) (d : TypeDesc) (h : Blk w g t cs)
    (hu : P.underlying ty = some d) (hd : (match d with | .struct _ | .array _ _ => true | _ => false) = true) (hi : (P.info? ty).map (·.size) = some cs.size)
    (hk : wpList P ops Q rest (a.put o.dst (.agg cs)) w) : wpList P ops Q (o :: rest) a w :=
  wpList_load_row hgd ty x ho g hx t cs (0, 0) d h hu hd hi hk
end

theorem bv_cells (bs : List UInt8) : ∀ v ∈ bv bs, v.oneCell' = true := by
  intro u hu
  obtain ⟨c, _, rfl⟩ := List.mem_map.1 hu
  rfl

end Go.Proofs.Ytjnpmleehapkcaa
