/- A block that is known whole: an array, a struct; its cells read, written, loaded and stored whole. -/
import Derived.Test.YtcnhbodemabbdaaDoorQ01
import Derived.Laws.Rows
import Derived.Laws.CopyRow
namespace Go.Proofs.YtcnhbodemabbdaaDoor
open Go.RowKit
set_option linter.unusedVariables false

/-- Block g is just the cells cs, of element type t, none of them frozen. -/
def Blk (w : World) (g : Nat) (t : TypeId) (cs : Array Value) : Prop := w.heap[g]? = some (.cells cs t (0, 0))

section
variable {w w' : World} {g : Nat} {t : TypeId} {cs : Array Value}
theorem Blk.lt (h : Blk w g t cs) : g < w.heap.size := (Array.getElem?_eq_some_iff.1 h).1
theorem Blk.cell (h : Blk w g t cs) (i : Nat) : w.cell? ⟨g, i, none⟩ = cs[i]? := cell_of_row w g i cs t (0, 0) h
theorem Blk.cell_ (h : Blk w g t cs) {i : Nat} (hi : i < cs.size) : w.cell? ⟨g, i, none⟩ = some cs[i] := by rw [h.cell, Array.getElem?_eq_getElem hi]
theorem Blk.frozen (h : Blk w g t cs) (i : Nat) : w.frozen? ⟨g, i, none⟩ = false := frozen_of_row w g i cs t h
theorem Blk.new (w : World) (t : TypeId) (cs : Array Value) : Blk (w.alloc (.cells cs t)) w.heap.size t cs := heap_alloc_new w _
theorem Blk.new_at {g : Nat} (hg : w.heap.size = g) (t : TypeId) (cs : Array Value) : Blk (w.alloc (.cells cs t)) g t cs := by subst hg; exact Blk.new w t cs
theorem Blk.alloc (h : Blk w g t cs) (o : Obj) : Blk (w.alloc o) g t cs := (Below.heap_alloc w o g h.lt).trans h
theorem Blk.drew (h : Blk w g t cs) : Blk w.drew g t cs := h
theorem Blk.drewN (h : Blk w g t cs) (n : Nat) : Blk (w.drewN n) g t cs := h
theorem Blk.set (h : Blk w g t cs) (i : Nat) (u : Value) : Blk (w.setCell ⟨g, i, none⟩ u) g t (cs.setIfInBounds i u) := heap_setCell_same w g i cs t u h
theorem Blk.far (h : Blk w g t cs) {p : Addr} (hp : g ≠ p.block) (u : Value) : Blk (w.setCell p u) g t cs := (heap_setCell_other w p g u hp).trans h
theorem Blk.ext (h : Blk w g t cs) (k : Ext w w') : Blk w' g t cs := (k.block g h.lt).trans h
theorem Blk.grown (h : Blk w g t cs) {row : Option Nat} (hg : w.grownBy w' row) (hne : some g ≠ row) : Blk w' g t cs := (hg.block g h.lt hne).trans h
theorem Blk.row (h : Blk w g t cs) (cs' : Array Value) : Blk (w.setRow g cs') g t cs' := setRow_heap w g cs cs' t (0, 0) h
theorem Blk.rowFar (h : Blk w g t cs) {k : Nat} (hk : g ≠ k) (cs' : Array Value) : Blk (w.setRow k cs') g t cs := (setRow_other w k g cs' hk).trans h
theorem Blk.cells (h : Blk w g t cs) : Cells w (some ⟨g, 0, none⟩) cs.toList := by
  intro i v hv
  refine ⟨_, rfl, ?_⟩
  rw [add_new, h.cell, ← Array.getElem?_toList]
  exact hv
theorem Blk.ne {g' : Nat} {t' : TypeId} {cs' : Array Value} (h : Blk w g t cs) (h' : Blk w g' t' cs') (hne : t ≠ t') : g ≠ g' := by
  rintro rfl
  unfold Blk at h h'
  rw [h] at h'
  injection h' with h'
  injection h' with _ ht
  exact hne ht
theorem Ext.grown_ {a : World} (h : Ext a w) {row : Option Nat} (hg : w.grownBy w' row) (hr : ∀ k, row = some k → a.heap.size ≤ k) : Ext a w' := Below.grown h hg h.size hr
theorem Ext.row {a : World} (h : Ext a w) (hg : a.heap.size ≤ g) (cs' : Array Value) : Ext a (w.setRow g cs') :=
  ⟨h.os, h.tape, h.output, by rw [size_setRow]; exact h.size, fun k hk => (setRow_other w g k cs' (by omega)).trans (h.block k hk)⟩
end

section
variable {P : Program} {w : World} {g : Nat} {t ty : TypeId} {cs : Array Value} {d : TypeDesc}
/-- The whole of an array or a struct, loaded. -/
theorem run_load_blk (h : Blk w g t cs) (hu : P.underlying ty = some d) (hd : (match d with | .struct _ | .array _ _ => true | _ => false) = true) (hi : (P.info? ty).map (·.size) = some cs.size) :
    (Instr.loadAt ty (.pointer (some ⟨g, 0, none⟩))).run P w = .ok (.agg cs) w := by
  simp only [Instr.loadAt, Instr.sureAddr, Sem.run_bind, Sem.run_pure, Result.andThen_ok, run_loadVar_row w g t ty cs (0, 0) d h hu hd hi]

/-- The whole of an array or a struct, stored. -/
theorem run_store_blk (h : Blk w g t cs) {vs : Array Value} (hs : vs.size = cs.size) (hi : (P.info? ty).map (·.size) = some cs.size) (h1 : ∀ v ∈ vs.toList, v.oneCell' = true) :
    (Instr.storeAt ty (.pointer (some ⟨g, 0, none⟩)) (.agg vs)).run P w = .ok () (w.setRow g vs) := by
  have hst := run_storeCells_at P g 0 t vs.toList 0 cs w h (by simp [hs]) h1
  cases hq : P.info? ty with
  | none => simp [hq] at hi
  | some i =>
    have hsz : i.size = cs.size := by simpa [hq] using hi
    simp only [Nat.add_zero, List.take_zero, List.nil_append, Nat.zero_add, Array.length_toList] at hst
    have hdrop : List.drop vs.size cs.toList = [] := by rw [hs]; exact List.drop_of_length_le (by simp)
    rw [hdrop, List.append_nil, Array.toArray_toList] at hst
    simp [Instr.storeAt, Instr.sureAddr, storeVar, Value.cells, sizeOf, typeInfo, hq, hsz, hs, hst]
end

section
variable {P : Program} {ops : Array Oper} {rest : List Oper} {o : Oper} {a : Act} {w : World} {Q : Exit → Act → World → Prop}
theorem wp_store_blk {K : Act → World → Prop} (ty : TypeId) (x y : Operand) (ho : o.op = .store ty x y) (hod : o.dst = none) (g : Nat) (vs : Array Value)
    (hx : a.eval x = .pointer (some ⟨g, 0, none⟩)) (hy : a.eval y = .agg vs) (t : TypeId) (cs : Array Value) (h : Blk w g t cs) (hs : vs.size = cs.size) (hi : (P.info? ty).map (·.size) = some cs.size) (h1 : ∀ v ∈ vs.toList, v.oneCell' = true)
    (hk : ∀ w', Blk w' g t vs → w.grownBy w' (some g) → K a w') : o.wp P a w K Q := by
  unfold Oper.wp execOp
  simp only [ho, hx, hy, Sem.run_bind, run_store_blk h hs hi h1, Result.andThen_ok, Sem.run_pure]
  have := hk (w.setRow g vs) (h.row vs) ⟨rfl, rfl, rfl, by simp, fun k _ hne => setRow_other w g k vs (fun e => hne (by rw [e]))⟩
  simpa [Oper.upon, hod, Act.put] using this
theorem wpList_store_blk (hgd : o.guard = none) (ty : TypeId) (x y : Operand) (ho : o.op = .store ty x y) (hod : o.dst = none) (g : Nat) (vs : Array Value)
    (hx : a.eval x = .pointer (some ⟨g, 0, none⟩)) (hy : a.eval y = .agg vs) (t : TypeId) (cs : Array Value) (h : Blk w g t cs) (hs : vs.size = cs.size) (hi : (P.info? ty).map (·.size) = some cs.size) (h1 : ∀ v ∈ vs.toList, v.oneCell' = true)
    (hk : ∀ w', Blk w' g t vs → w.grownBy w' (some g) → wpList P ops Q rest a w') : wpList P ops Q (o :: rest) a w :=
  wpList_plain hgd fun _ hK => wp_store_blk ty x y ho hod g vs hx hy t cs h hs hi h1 fun w' hb hg => hK _ _ (hk w' hb hg)
theorem wpList_load_blk (hgd : o.guard = none) (ty : TypeId) (x : Operand) (ho : o.op = .load ty x)
    (g : Nat) (hx : a.eval x = .pointer (some ⟨g, 0, none⟩)) (t : TypeId) (cs : Array Value) (d : TypeDesc) (h : Blk w g t cs)
    (hu : P.underlying ty = some d) (hd : (match d with | .struct _ | .array _ _ => true | _ => false) = true) (hi : (P.info? ty).map (·.size) = some cs.size)
    (hk : wpList P ops Q rest (a.put o.dst (.agg cs)) w) : wpList P ops Q (o :: rest) a w :=
  wpList_load_row hgd ty x ho g hx t cs (0, 0) d h hu hd hi hk
end

theorem bv_cells (bs : List UInt8) : ∀ v ∈ bv bs, v.oneCell' = true := by
  intro u hu
  obtain ⟨c, _, rfl⟩ := List.mem_map.1 hu
  rfl

theorem Cells.far {w : World} {A : Option Addr} {cs : List Value} (h : Cells w A cs) {p : Addr} (hne : ∀ x, A = some x → x.block ≠ p.block) (u : Value) : Cells (w.setCell p u) A cs := by
  intro i v hv
  obtain ⟨x, rfl, hc⟩ := h i v hv
  refine ⟨x, rfl, ?_⟩
  rw [World.cell?_of_block (w := w) (heap_setCell_other w p _ u ?_)]
  · exact hc
  · have : (x.add i).block = x.block := by unfold Addr.add; split <;> rfl
    rw [this]
    exact hne x rfl
theorem grown_set (w : World) (g i : Nat) (u : Value) : w.grownBy (w.setCell ⟨g, i, none⟩ u) (some g) :=
  ⟨rfl, rfl, rfl, by simp, fun k _ hk => heap_setCell_other w ⟨g, i, none⟩ k u (fun e => hk (by simp [e]))⟩

theorem block_add (a : Addr) (n : Nat) : (a.add n).block = a.block := by unfold Addr.add; split <;> rfl
theorem add_add (a : Addr) (i j : Nat) : (a.add i).add j = a.add (i + j) := by
  unfold Addr.add
  by_cases hi : i = 0 <;> by_cases hj : j = 0 <;> simp [hi, hj, Nat.add_assoc]

/-- The same memory, further on. -/
def Same (A A' : Option Addr) : Prop := ∀ x', A' = some x' → ∃ x, A = some x ∧ x'.block = x.block
theorem Same.ne {A A' : Option Addr} (h : Same A A') {g : Nat} (hne : ∀ x, A = some x → x.block ≠ g) : ∀ x, A' = some x → x.block ≠ g := by
  intro x hx
  obtain ⟨y, hy, e⟩ := h x hx
  rw [e]
  exact hne y hy

theorem Cells.drop {w : World} {A : Option Addr} {cs : List Value} (h : Cells w A cs) (k : Nat) : Cells w (A.map (·.add k)) (cs.drop k) := by
  intro i v hv
  rw [List.getElem?_drop] at hv
  obtain ⟨x, rfl, hc⟩ := h (k + i) v hv
  exact ⟨x.add k, rfl, by rw [add_add]; exact hc⟩
theorem Cells.take {w : World} {A : Option Addr} {cs : List Value} (h : Cells w A cs) (k : Nat) : Cells w A (cs.take k) := by
  intro i v hv
  rw [List.getElem?_take] at hv
  split at hv
  · exact h i v hv
  · cases hv

section
variable {P : Program} {w : World}
theorem run_slice_from (t e : TypeId) (ht : P.underlying t = some (.slice e)) (sz : Nat) (hs : (P.info? e).map (·.size) = some sz) (A : Option Addr) (n c k : Nat) (hk : k ≤ n) (hc : n ≤ c) (kk : IntKind) :
    (Instr.sliceAt t (.slice A n c) (some (.int kk k)) none none).run P w = .ok (.slice (if c = k then A else A.map (·.add (k * sz))) (n - k) (c - k)) w := by
  cases hq : P.info? e with
  | none => simp [hq] at hs
  | some i =>
    have hi : i.size = sz := by simpa [hq] using hs
    have h0 : (0 : Int) ≤ (k : Int) ∧ (k : Int) ≤ (n : Int) := by omega
    simp [Instr.sliceAt, Instr.slice, Instr.sliceBounds, Instr.sliceBound, asIntOf, run_underlying ht, sizeOf, typeInfo, hq, hi, h0]
    exact fun h => absurd h (by omega)

theorem cut_cells {A : Option Addr} {cs : List Value} {n c k sz : Nat} (h : Cells w A cs) (hcs : cs.length = n * sz) (hk : k ≤ n) (hc : n ≤ c) :
    Cells w (if c = k then A else A.map (·.add (k * sz))) (cs.drop (k * sz)) ∧ Same A (if c = k then A else A.map (·.add (k * sz))) := by
  split
  · have : k = n := by omega
    subst this
    rw [List.drop_of_length_le (by omega)]
    exact ⟨Cells.nil _ _, fun x hx => ⟨x, hx, rfl⟩⟩
  · refine ⟨h.drop _, fun x hx => ?_⟩
    cases A with
    | none => simp at hx
    | some a =>
      simp at hx
      subst hx
      exact ⟨a, rfl, block_add _ _⟩

variable {ops : Array Oper} {rest : List Oper} {o : Oper} {a : Act} {Q : Exit → Act → World → Prop}
/-- x[k:] of a slice. -/
theorem wp_slice_from {K : Act → World → Prop} (t e : TypeId) (x y : Operand) (ho : o.op = .slice t x (some y) none none) (ht : P.underlying t = some (.slice e)) (sz : Nat) (hs : (P.info? e).map (·.size) = some sz)
    (A : Option Addr) (n c k : Nat) (kk : IntKind) (hx : a.eval x = .slice A n c) (hy : a.eval y = .int kk k) (hk : k ≤ n) (hc : n ≤ c) {cs : List Value} (h : Cells w A cs) (hcs : cs.length = n * sz)
    (hK : ∀ A', Cells w A' (cs.drop (k * sz)) → Same A A' → K (a.put o.dst (.slice A' (n - k) (c - k))) w) : o.wp P a w K Q := by
  have hr := run_slice_from (P := P) (w := w) t e ht sz hs A n c k hk hc kk
  obtain ⟨h1, h2⟩ := cut_cells (c := c) (k := k) h hcs hk hc
  unfold Oper.wp execOp
  simp only [ho, hx, hy, Option.map_some, Option.map_none, Sem.run_bind, hr, Result.andThen_ok, Sem.run_pure]
  exact hK _ h1 h2
theorem wpList_slice_from (hgd : o.guard = none) (t e : TypeId) (x y : Operand) (ho : o.op = .slice t x (some y) none none) (ht : P.underlying t = some (.slice e)) (sz : Nat) (hs : (P.info? e).map (·.size) = some sz)
    (A : Option Addr) (n c k : Nat) (kk : IntKind) (hx : a.eval x = .slice A n c) (hy : a.eval y = .int kk k) (hk : k ≤ n) (hc : n ≤ c) {cs : List Value} (h : Cells w A cs) (hcs : cs.length = n * sz)
    (hK : ∀ A', Cells w A' (cs.drop (k * sz)) → Same A A' → wpList P ops Q rest (a.put o.dst (.slice A' (n - k) (c - k))) w) : wpList P ops Q (o :: rest) a w :=
  wpList_plain hgd fun _ hk' => wp_slice_from t e x y ho ht sz hs A n c k kk hx hy hk hc h hcs fun A' h1 h2 => hk' _ _ (hK A' h1 h2)
end

end Go.Proofs.YtcnhbodemabbdaaDoor
