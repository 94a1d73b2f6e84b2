/- Words that the walks of this seat share: readable rows of cells, and how they outlive a step that turns no old block. -/
import Derived.Test.YtcnhbodemabbdaaDoorProg
import Derived.WalkKit
import Derived.WalkSpells
import Derived.WalkLawsBesides
import Derived.Deep.Draws
import Derived.Deep.LoopGhost
import Derived.Deep.QuietTactic
import Derived.BigQuiet
import Derived.Lib.ConvBytes
import Derived.Lib.Hide
import Derived.Deep.DeepCutAuto
import Derived.Laws.BytesArg
import Derived.Lib.SlBytesConst
import Derived.Laws.Rows
import Derived.Laws.CopyRow
namespace Go.Proofs.YtcnhbodemabbdaaDoor
open Go.RowKit
set_option linter.unusedVariables false

/-- All blocks that were there are as they were. -/
abbrev Ext (w w' : World) : Prop := Below w.heap.size w w'

theorem Ext.refl (w : World) : Ext w w := Below.refl _ _
theorem Ext.trans {a b c : World} (h : Ext a b) (k : Ext b c) : Ext a c := Below.trans h (Below.mono k h.size)
theorem Ext.alloc {a w : World} (h : Ext a w) (o : Obj) : Ext a (w.alloc o) := Below.alloc h h.size o
theorem Ext.drew {a w : World} (h : Ext a w) : Ext a w.drew := Below.drew h
theorem Ext.drewN {a w : World} (h : Ext a w) (n : Nat) : Ext a (w.drewN n) := ⟨h.os, h.tape, h.output, h.size, h.block⟩
theorem Ext.set {a w : World} (h : Ext a w) {p : Addr} (hp : a.heap.size ≤ p.block) (u : Value) : Ext a (w.setCell p u) := Below.setCell h hp u

theorem Ext.cell {w w' : World} (h : Ext w w') {p : Addr} {v : Value} (hc : w.cell? p = some v) : w'.cell? p = some v :=
  (Below.cell h (World.block_lt_of_cell? w p hc)).trans hc

/-- The cells from an address on. -/
def Cells (w : World) (a : Option Addr) (cs : List Value) : Prop :=
  ∀ i v, cs[i]? = some v → ∃ x, a = some x ∧ w.cell? (x.add i) = some v

theorem Cells.nil (w : World) (a : Option Addr) : Cells w a [] := fun i v h => by simp at h
theorem Cells.ext {w w' : World} {a : Option Addr} {cs : List Value} (h : Cells w a cs) (k : Ext w w') : Cells w' a cs :=
  fun i v hv => let ⟨x, hx, hc⟩ := h i v hv; ⟨x, hx, k.cell hc⟩

/-- Bytes as values. -/
def bv (bs : List UInt8) : List Value := bs.map fun c => .int .u8 c.toNat

theorem bv_get {bs : List UInt8} {i : Nat} (h : i < bs.length) : (bv bs)[i]? = some (.int .u8 bs[i].toNat) := by
  simp [bv, h]

theorem Cells.byte {w : World} {a : Option Addr} {bs : List UInt8} (h : Cells w a (bv bs)) {i : Nat} (hi : i < bs.length) :
    ∃ x, a = some x ∧ w.cell? (x.add i) = some (.int .u8 bs[i].toNat) := h i _ (bv_get hi)

/-- A slice of bytes, by what it reads as. -/
def BS (w : World) (v : Value) (bs : List UInt8) : Prop :=
  ∃ a c, v = .slice a bs.length c ∧ bs.length ≤ c ∧ Cells w a (bv bs)

theorem BS.ext {w w' : World} {v : Value} {bs : List UInt8} (h : BS w v bs) (k : Ext w w') : BS w' v bs :=
  let ⟨a, c, e, l, hc⟩ := h; ⟨a, c, e, l, hc.ext k⟩

theorem BS.of {w : World} {a : Option Addr} {n c : Nat} {bs : List UInt8} (hn : bs.length = n) (hl : n ≤ c) (h : Cells w a (bv bs)) : BS w (.slice a n c) bs := by
  subst hn
  exact ⟨a, c, rfl, hl, h⟩

/-- A row of slices of bytes. -/
def BSs (w : World) (a : Option Addr) (xs : List (List UInt8)) : Prop :=
  ∀ i bs, xs[i]? = some bs → ∃ x v, a = some x ∧ w.cell? (x.add i) = some v ∧ BS w v bs

theorem BSs.ext {w w' : World} {a : Option Addr} {xs : List (List UInt8)} (h : BSs w a xs) (k : Ext w w') : BSs w' a xs :=
  fun i bs hb => let ⟨x, v, e, hc, hv⟩ := h i bs hb; ⟨x, v, e, k.cell hc, hv.ext k⟩

theorem BSs.get {w : World} {a : Option Addr} {xs : List (List UInt8)} (h : BSs w a xs) {i : Nat} (hi : i < xs.length) :
    ∃ x b c, a = some x ∧ w.cell? (x.add i) = some (.slice b xs[i].length c) ∧ xs[i].length ≤ c ∧ Cells w b (bv xs[i]) := by
  obtain ⟨x, v, e, hc, b, c, rfl, hl, hb⟩ := h i xs[i] (List.getElem?_eq_getElem hi)
  exact ⟨x, b, c, e, hc, hl, hb⟩

theorem BSs.two {w : World} {a : Option Addr} {v u : Value} {xs ys : List UInt8} (h : Cells w a [v, u]) (hv : BS w v xs) (hu : BS w u ys) : BSs w a [xs, ys] := by
  intro i bs hi
  match i with
  | 0 =>
    simp at hi; subst hi
    obtain ⟨x, e, hc⟩ := h 0 v rfl
    exact ⟨x, v, e, hc, hv⟩
  | 1 =>
    simp at hi; subst hi
    obtain ⟨x, e, hc⟩ := h 1 u rfl
    exact ⟨x, u, e, hc, hu⟩
  | n + 2 => simp at hi

theorem cell_new (w : World) (C : Array Value) (t : TypeId) (fr : Nat × Nat) (j : Nat) : (w.alloc (.cells C t fr)).cell? ⟨w.heap.size, j, none⟩ = C[j]? := World.cell?_alloc_mark w C t fr j

theorem Cells.new (w : World) (C : Array Value) (t : TypeId) (fr : Nat × Nat) : Cells (w.alloc (.cells C t fr)) (some ⟨w.heap.size, 0, none⟩) C.toList := by
  intro i v h
  refine ⟨_, rfl, ?_⟩
  have e : (⟨w.heap.size, 0, none⟩ : Addr).add i = ⟨w.heap.size, i, none⟩ := by unfold Addr.add; split <;> simp_all
  rw [e, cell_new, ← Array.getElem?_toList]
  exact h

theorem Cells.new_at {w : World} {g : Nat} (hg : w.heap.size = g) (C : Array Value) (t : TypeId) (fr : Nat × Nat) : Cells (w.alloc (.cells C t fr)) (some ⟨g, 0, none⟩) C.toList := by
  subst hg
  exact Cells.new w C t fr

theorem Cells.lit {w : World} {g : Nat} (hg : w.heap.size = g) (cs : List Value) (t : TypeId) (fr : Nat × Nat) : Cells (w.alloc (.cells cs.toArray t fr)) (some ⟨g, 0, none⟩) cs := by
  have h := Cells.new_at hg cs.toArray t fr
  simpa using h

theorem ret_bool {a b : Bool} (h : a = b) : Ending.returned (.bool a) = .returned (.bool b) := by rw [h]
theorem ret_int {k : IntKind} {a b : Int} (h : a = b) : Ending.returned (.int k a) = .returned (.int k b) := by rw [h]
/-- The string of bytes. -/
def bstr (bs : List UInt8) : ByteArray := ⟨bs.toArray⟩
theorem bstr_data (bs : List UInt8) : (bstr bs).data.toList = bs := by simp [bstr]
theorem bstr_size (bs : List UInt8) : (bstr bs).size = bs.length := by simp [bstr, ByteArray.size]
theorem bstr_of (s : ByteArray) : bstr s.data.toList = s := by cases s; simp [bstr]
theorem bstr_inj {a b : List UInt8} (h : bstr a = bstr b) : a = b := by rw [← bstr_data a, h, bstr_data]

theorem bstr_append (a b : List UInt8) : bstr a ++ bstr b = bstr (a ++ b) := by
  apply ByteArray.ext
  simp [bstr]
theorem str_append_size (a b : ByteArray) : (a ++ b).size = a.size + b.size := ByteArray.size_append

theorem str_len (s : ByteArray) : s.data.toList.length = s.size := by rw [Array.length_toList]; rfl
theorem str_get (s : ByteArray) (k : Nat) (h : k < s.size) : s[k] = s.data.toList[k]'(by rw [str_len]; exact h) := rfl

theorem conv_str {P : Program} {src dst e : TypeId} (hs : P.underlying src = some (.slice e)) (he : P.underlying e = some (.int .u8)) (hd : P.underlying dst = some .string)
    {w : World} {a : Option Addr} {n c : Nat} {bs : List UInt8} (hn : bs.length = n) (h : Cells w a (bv bs)) :
    (convert src dst (.slice a n c)).run P w = .ok (.string (bstr bs)) w := by
  subst hn
  cases bs with
  | nil =>
    cases a with
    | none =>
      rw [run_convert_bytes_nil w src e hs he _ _ dst hd]; rfl
    | some x => exact run_convert_bytes_back w src dst e x c [] hs he hd (fun j hj => by simp at hj)
  | cons b bs =>
    obtain ⟨x, rfl, _⟩ := h 0 _ rfl
    exact run_convert_bytes_back w src dst e x c (b :: bs) hs he hd (fun j hj => by
      obtain ⟨y, hy, hc⟩ := h.byte hj
      cases hy
      exact hc)

theorem add_zero (x : Addr) : x.add 0 = x := rfl
theorem add_new (g j : Nat) : (⟨g, 0, none⟩ : Addr).add j = ⟨g, j, none⟩ := by unfold Addr.add; split <;> simp_all

end Go.Proofs.YtcnhbodemabbdaaDoor
/- A block that is known whole: an array, a struct; its cells read, written, loaded and stored whole. -/
namespace Go.Proofs.YtcnhbodemabbdaaDoor
open Go.RowKit
set_option linter.unusedVariables false

/-- Block g is just the cells cs, of element type t, none of them frozen. -/
def Blk (w : World) (g : Nat) (t : TypeId) (cs : Array Value) : Prop := w.heap[g]? = some (.cells cs t (0, 0))

section
variable {w w' : World} {g : Nat} {t : TypeId} {cs : Array Value}
theorem Blk.lt (h : Blk w g t cs) : g < w.heap.size := (Array.getElem?_eq_some_iff.1 h).1
theorem Blk.cell (h : Blk w g t cs) (i : Nat) : w.cell? ⟨g, i, none⟩ = cs[i]? := cell_of_row w g i cs t (0, 0) h
theorem Blk.cell_ (h : Blk w g t cs) {i : Nat} (hi : i < cs.size) : w.cell? ⟨g, i, none⟩ = some cs[i] := by rw [h.cell, Array.getElem?_eq_getElem hi]
theorem Blk.frozen (h : Blk w g t cs) (i : Nat) : w.frozen? ⟨g, i, none⟩ = false := frozen_of_row w g i cs t h
theorem Blk.new (w : World) (t : TypeId) (cs : Array Value) : Blk (w.alloc (.cells cs t)) w.heap.size t cs := heap_alloc_new w _
theorem Blk.new_at {g : Nat} (hg : w.heap.size = g) (t : TypeId) (cs : Array Value) : Blk (w.alloc (.cells cs t)) g t cs := by subst hg; exact Blk.new w t cs
theorem Blk.alloc (h : Blk w g t cs) (o : Obj) : Blk (w.alloc o) g t cs := (Below.heap_alloc w o g h.lt).trans h
theorem Blk.drew (h : Blk w g t cs) : Blk w.drew g t cs := h
theorem Blk.drewN (h : Blk w g t cs) (n : Nat) : Blk (w.drewN n) g t cs := h
theorem Blk.set (h : Blk w g t cs) (i : Nat) (u : Value) : Blk (w.setCell ⟨g, i, none⟩ u) g t (cs.setIfInBounds i u) := heap_setCell_same w g i cs t u h
theorem Blk.far (h : Blk w g t cs) {p : Addr} (hp : g ≠ p.block) (u : Value) : Blk (w.setCell p u) g t cs := (heap_setCell_other w p g u hp).trans h
theorem Blk.ext (h : Blk w g t cs) (k : Ext w w') : Blk w' g t cs := (k.block g h.lt).trans h
theorem Blk.grown (h : Blk w g t cs) {row : Option Nat} (hg : w.grownBy w' row) (hne : some g ≠ row) : Blk w' g t cs := (hg.block g h.lt hne).trans h
theorem Blk.row (h : Blk w g t cs) (cs' : Array Value) : Blk (w.setRow g cs') g t cs' := setRow_heap w g cs cs' t (0, 0) h
theorem Blk.rowFar (h : Blk w g t cs) {k : Nat} (hk : g ≠ k) (cs' : Array Value) : Blk (w.setRow k cs') g t cs := (setRow_other w k g cs' hk).trans h
theorem Blk.cells (h : Blk w g t cs) : Cells w (some ⟨g, 0, none⟩) cs.toList := by
  intro i v hv
  refine ⟨_, rfl, ?_⟩
  rw [add_new, h.cell, ← Array.getElem?_toList]
  exact hv
theorem Blk.ne {g' : Nat} {t' : TypeId} {cs' : Array Value} (h : Blk w g t cs) (h' : Blk w g' t' cs') (hne : t ≠ t') : g ≠ g' := by
  rintro rfl
  unfold Blk at h h'
  rw [h] at h'
  injection h' with h'
  injection h' with _ ht
  exact hne ht
theorem Ext.grown_ {a : World} (h : Ext a w) {row : Option Nat} (hg : w.grownBy w' row) (hr : ∀ k, row = some k → a.heap.size ≤ k) : Ext a w' := Below.grown h hg h.size hr
theorem Ext.row {a : World} (h : Ext a w) (hg : a.heap.size ≤ g) (cs' : Array Value) : Ext a (w.setRow g cs') :=
  ⟨h.os, h.tape, h.output, by rw [size_setRow]; exact h.size, fun k hk => (setRow_other w g k cs' (by omega)).trans (h.block k hk)⟩
end

section
variable {P : Program} {w : World} {g : Nat} {t ty : TypeId} {cs : Array Value} {d : TypeDesc}
/-- The whole of an array or a struct, loaded. -/
theorem run_load_blk (h : Blk w g t cs) (hu : P.underlying ty = some d) (hd : (match d with | .struct _ | .array _ _ => true | _ => false) = true) (hi : (P.info? ty).map (·.size) = some cs.size) :
    (Instr.loadAt ty (.pointer (some ⟨g, 0, none⟩))).run P w = .ok (.agg cs) w := by
  simp only [Instr.loadAt, Instr.sureAddr, Sem.run_bind, Sem.run_pure, Result.andThen_ok, run_loadVar_row w g t ty cs (0, 0) d h hu hd hi]

/-- The whole of an array or a struct, stored. -/
theorem run_store_blk (h : Blk w g t cs) {vs : Array Value} (hs : vs.size = cs.size) (hi : (P.info? ty).map (·.size) = some cs.size) (h1 : ∀ v ∈ vs.toList, v.oneCell' = true) :
    (Instr.storeAt ty (.pointer (some ⟨g, 0, none⟩)) (.agg vs)).run P w = .ok () (w.setRow g vs) := by
  have hst := run_storeCells_at P g 0 t vs.toList 0 cs w h (by simp [hs]) h1
  cases hq : P.info? ty with
  | none => simp [hq] at hi
  | some i =>
    have hsz : i.size = cs.size := by simpa [hq] using hi
    simp only [Nat.add_zero, List.take_zero, List.nil_append, Nat.zero_add, Array.length_toList] at hst
    have hdrop : List.drop vs.size cs.toList = [] := by rw [hs]; exact List.drop_of_length_le (by simp)
    rw [hdrop, List.append_nil, Array.toArray_toList] at hst
    simp [Instr.storeAt, Instr.sureAddr, storeVar, Value.cells, sizeOf, typeInfo, hq, hsz, hs, hst]
end

section
variable {P : Program} {ops : Array Oper} {rest : List Oper} {o : Oper} {a : Act} {w : World} {Q : Exit → Act → World → Prop}
theorem wp_store_blk {K : Act → World → Prop} (ty : TypeId) (x y : Operand) (ho : o.op = .store ty x y) (hod : o.dst = none) (g : Nat) (vs : Array Value)
    (hx : a.eval x = .pointer (some ⟨g, 0, none⟩)) (hy : a.eval y = .agg vs) (t : TypeId) (cs : Array Value) (h : Blk w g t cs) (hs : vs.size = cs.size) (hi : (P.info? ty).map (·.size) = some cs.size) (h1 : ∀ v ∈ vs.toList, v.oneCell' = true)
    (hk : ∀ w', Blk w' g t vs → w.grownBy w' (some g) → K a w') : o.wp P a w K Q := by
  unfold Oper.wp execOp
  simp only [ho, hx, hy, Sem.run_bind, run_store_blk h hs hi h1, Result.andThen_ok, Sem.run_pure]
  have := hk (w.setRow g vs) (h.row vs) ⟨rfl, rfl, rfl, by simp, fun k _ hne => setRow_other w g k vs (fun e => hne (by rw [e]))⟩
  simpa [Oper.upon, hod, Act.put] using this
theorem wpList_store_blk (hgd : o.guard = none) (ty : TypeId) (x y : Operand) (ho : o.op = .store ty x y) (hod : o.dst = none) (g : Nat) (vs : Array Value)
    (hx : a.eval x = .pointer (some ⟨g, 0, none⟩)) (hy : a.eval y = .agg vs) (t : TypeId) (cs : Array Value) (h : Blk w g t cs) (hs : vs.size = cs.size) (hi : (P.info? ty).map (·.size) = some cs.size) (h1 : ∀ v ∈ vs.toList, v.oneCell' = true)
    (hk : ∀ w', Blk w' g t vs → w.grownBy w' (some g) → wpList P ops Q rest a w') : wpList P ops Q (o :: rest) a w :=
  wpList_plain hgd fun _ hK => wp_store_blk ty x y ho hod g vs hx hy t cs h hs hi h1 fun w' hb hg => hK _ _ (hk w' hb hg)
theorem wpList_load_blk (hgd : o.guard = none) (ty : TypeId) (x : Operand) (ho : o.op = .load ty x)
    (g : Nat) (hx : a.eval x = .pointer (some ⟨g, 0, none⟩)) (t : TypeId) (cs : Array Value) (d : TypeDesc) (h : Blk w g t cs)
    (hu : P.underlying ty = some d) (hd : (match d with | .struct _ | .array _ _ => true | _ => false) = true) (hi : (P.info? ty).map (·.size) = some cs.size)
    (hk : wpList P ops Q rest (a.put o.dst (.agg cs)) w) : wpList P ops Q (o :: rest) a w :=
  wpList_load_row hgd ty x ho g hx t cs (0, 0) d h hu hd hi hk
end

theorem bv_cells (bs : List UInt8) : ∀ v ∈ bv bs, v.oneCell' = true := by
  intro u hu
  obtain ⟨c, _, rfl⟩ := List.mem_map.1 hu
  rfl

theorem Cells.far {w : World} {A : Option Addr} {cs : List Value} (h : Cells w A cs) {p : Addr} (hne : ∀ x, A = some x → x.block ≠ p.block) (u : Value) : Cells (w.setCell p u) A cs := by
  intro i v hv
  obtain ⟨x, rfl, hc⟩ := h i v hv
  refine ⟨x, rfl, ?_⟩
  rw [World.cell?_of_block (w := w) (heap_setCell_other w p _ u ?_)]
  · exact hc
  · have : (x.add i).block = x.block := by unfold Addr.add; split <;> rfl
    rw [this]
    exact hne x rfl
theorem grown_set (w : World) (g i : Nat) (u : Value) : w.grownBy (w.setCell ⟨g, i, none⟩ u) (some g) :=
  ⟨rfl, rfl, rfl, by simp, fun k _ hk => heap_setCell_other w ⟨g, i, none⟩ k u (fun e => hk (by simp [e]))⟩

theorem block_add (a : Addr) (n : Nat) : (a.add n).block = a.block := by unfold Addr.add; split <;> rfl
theorem add_add (a : Addr) (i j : Nat) : (a.add i).add j = a.add (i + j) := by
  unfold Addr.add
  by_cases hi : i = 0 <;> by_cases hj : j = 0 <;> simp [hi, hj, Nat.add_assoc]

/-- The same memory, further on. -/
def Same (A A' : Option Addr) : Prop := ∀ x', A' = some x' → ∃ x, A = some x ∧ x'.block = x.block
theorem Same.ne {A A' : Option Addr} (h : Same A A') {g : Nat} (hne : ∀ x, A = some x → x.block ≠ g) : ∀ x, A' = some x → x.block ≠ g := by
  intro x hx
  obtain ⟨y, hy, e⟩ := h x hx
  rw [e]
  exact hne y hy

theorem Cells.drop {w : World} {A : Option Addr} {cs : List Value} (h : Cells w A cs) (k : Nat) : Cells w (A.map (·.add k)) (cs.drop k) := by
  intro i v hv
  rw [List.getElem?_drop] at hv
  obtain ⟨x, rfl, hc⟩ := h (k + i) v hv
  exact ⟨x.add k, rfl, by rw [add_add]; exact hc⟩
theorem Cells.take {w : World} {A : Option Addr} {cs : List Value} (h : Cells w A cs) (k : Nat) : Cells w A (cs.take k) := by
  intro i v hv
  rw [List.getElem?_take] at hv
  split at hv
  · exact h i v hv
  · cases hv

section
variable {P : Program} {w : World}
theorem run_slice_from (t e : TypeId) (ht : P.underlying t = some (.slice e)) (sz : Nat) (hs : (P.info? e).map (·.size) = some sz) (A : Option Addr) (n c k : Nat) (hk : k ≤ n) (hc : n ≤ c) (kk : IntKind) :
    (Instr.sliceAt t (.slice A n c) (some (.int kk k)) none none).run P w = .ok (.slice (if c = k then A else A.map (·.add (k * sz))) (n - k) (c - k)) w := by
  cases hq : P.info? e with
  | none => simp [hq] at hs
  | some i =>
    have hi : i.size = sz := by simpa [hq] using hs
    have h0 : (0 : Int) ≤ (k : Int) ∧ (k : Int) ≤ (n : Int) := by omega
    simp [Instr.sliceAt, Instr.slice, Instr.sliceBounds, Instr.sliceBound, asIntOf, run_underlying ht, sizeOf, typeInfo, hq, hi, h0]
    exact fun h => absurd h (by omega)

theorem cut_cells {A : Option Addr} {cs : List Value} {n c k sz : Nat} (h : Cells w A cs) (hcs : cs.length = n * sz) (hk : k ≤ n) (hc : n ≤ c) :
    Cells w (if c = k then A else A.map (·.add (k * sz))) (cs.drop (k * sz)) ∧ Same A (if c = k then A else A.map (·.add (k * sz))) := by
  split
  · have : k = n := by omega
    subst this
    rw [List.drop_of_length_le (by omega)]
    exact ⟨Cells.nil _ _, fun x hx => ⟨x, hx, rfl⟩⟩
  · refine ⟨h.drop _, fun x hx => ?_⟩
    cases A with
    | none => simp at hx
    | some a =>
      simp at hx
      subst hx
      exact ⟨a, rfl, block_add _ _⟩

variable {ops : Array Oper} {rest : List Oper} {o : Oper} {a : Act} {Q : Exit → Act → World → Prop}
/-- x[k:] of a slice. -/
theorem wp_slice_from {K : Act → World → Prop} (t e : TypeId) (x y : Operand) (ho : o.op = .slice t x (some y) none none) (ht : P.underlying t = some (.slice e)) (sz : Nat) (hs : (P.info? e).map (·.size) = some sz)
    (A : Option Addr) (n c k : Nat) (kk : IntKind) (hx : a.eval x = .slice A n c) (hy : a.eval y = .int kk k) (hk : k ≤ n) (hc : n ≤ c) {cs : List Value} (h : Cells w A cs) (hcs : cs.length = n * sz)
    (hK : ∀ A', Cells w A' (cs.drop (k * sz)) → Same A A' → K (a.put o.dst (.slice A' (n - k) (c - k))) w) : o.wp P a w K Q := by
  have hr := run_slice_from (P := P) (w := w) t e ht sz hs A n c k hk hc kk
  obtain ⟨h1, h2⟩ := cut_cells (c := c) (k := k) h hcs hk hc
  unfold Oper.wp execOp
  simp only [ho, hx, hy, Option.map_some, Option.map_none, Sem.run_bind, hr, Result.andThen_ok, Sem.run_pure]
  exact hK _ h1 h2
theorem wpList_slice_from (hgd : o.guard = none) (t e : TypeId) (x y : Operand) (ho : o.op = .slice t x (some y) none none) (ht : P.underlying t = some (.slice e)) (sz : Nat) (hs : (P.info? e).map (·.size) = some sz)
    (A : Option Addr) (n c k : Nat) (kk : IntKind) (hx : a.eval x = .slice A n c) (hy : a.eval y = .int kk k) (hk : k ≤ n) (hc : n ≤ c) {cs : List Value} (h : Cells w A cs) (hcs : cs.length = n * sz)
    (hK : ∀ A', Cells w A' (cs.drop (k * sz)) → Same A A' → wpList P ops Q rest (a.put o.dst (.slice A' (n - k) (c - k))) w) : wpList P ops Q (o :: rest) a w :=
  wpList_plain hgd fun _ hk' => wp_slice_from t e x y ho ht sz hs A n c k kk hx hy hk hc h hcs fun A' h1 h2 => hk' _ _ (hK A' h1 h2)
end

end Go.Proofs.YtcnhbodemabbdaaDoor
