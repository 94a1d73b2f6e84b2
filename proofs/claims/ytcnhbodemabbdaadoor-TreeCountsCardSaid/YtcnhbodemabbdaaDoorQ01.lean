/- Words that the walks of this seat share: readable rows of cells, and how they outlive a step that turns no old block. -/
import Derived.Test.YtcnhbodemabbdaaDoorProg
import Derived.WalkKit
import Derived.WalkSpells
import Derived.WalkLawsBesides
import Derived.Deep.Draws
import Derived.Deep.LoopGhost
import Derived.Deep.QuietTactic
import Derived.BigQuiet
import Derived.Lib.ConvBytes
import Derived.Lib.Hide
import Derived.Deep.DeepCutAuto
import Derived.Laws.BytesArg
import Derived.Lib.SlBytesConst
namespace Go.Proofs.YtcnhbodemabbdaaDoor
open Go.RowKit
set_option linter.unusedVariables false

/-- All blocks that were there are as they were. -/
abbrev Ext (w w' : World) : Prop := Below w.heap.size w w'

theorem Ext.refl (w : World) : Ext w w := Below.refl _ _
theorem Ext.trans {a b c : World} (h : Ext a b) (k : Ext b c) : Ext a c := Below.trans h (Below.mono k h.size)
theorem Ext.alloc {a w : World} (h : Ext a w) (o : Obj) : Ext a (w.alloc o) := Below.alloc h h.size o
theorem Ext.drew {a w : World} (h : Ext a w) : Ext a w.drew := Below.drew h
theorem Ext.drewN {a w : World} (h : Ext a w) (n : Nat) : Ext a (w.drewN n) := ⟨h.os, h.tape, h.output, h.size, h.block⟩
theorem Ext.set {a w : World} (h : Ext a w) {p : Addr} (hp : a.heap.size ≤ p.block) (u : Value) : Ext a (w.setCell p u) := Below.setCell h hp u

theorem Ext.cell {w w' : World} (h : Ext w w') {p : Addr} {v : Value} (hc : w.cell? p = some v) : w'.cell? p = some v :=
  (Below.cell h (World.block_lt_of_cell? w p hc)).trans hc

/-- The cells from an address on. -/
def Cells (w : World) (a : Option Addr) (cs : List Value) : Prop :=
  ∀ i v, cs[i]? = some v → ∃ x, a = some x ∧ w.cell? (x.add i) = some v

theorem Cells.nil (w : World) (a : Option Addr) : Cells w a [] := fun i v h => by simp at h
theorem Cells.ext {w w' : World} {a : Option Addr} {cs : List Value} (h : Cells w a cs) (k : Ext w w') : Cells w' a cs :=
  fun i v hv => let ⟨x, hx, hc⟩ := h i v hv; ⟨x, hx, k.cell hc⟩

/-- Bytes as values. -/
def bv (bs : List UInt8) : List Value := bs.map fun c => .int .u8 c.toNat

theorem bv_get {bs : List UInt8} {i : Nat} (h : i < bs.length) : (bv bs)[i]? = some (.int .u8 bs[i].toNat) := by
  simp [bv, h]

theorem Cells.byte {w : World} {a : Option Addr} {bs : List UInt8} (h : Cells w a (bv bs)) {i : Nat} (hi : i < bs.length) :
    ∃ x, a = some x ∧ w.cell? (x.add i) = some (.int .u8 bs[i].toNat) := h i _ (bv_get hi)

/-- A slice of bytes, by what it reads as. -/
def BS (w : World) (v : Value) (bs : List UInt8) : Prop :=
  ∃ a c, v = .slice a bs.length c ∧ bs.length ≤ c ∧ Cells w a (bv bs)

theorem BS.ext {w w' : World} {v : Value} {bs : List UInt8} (h : BS w v bs) (k : Ext w w') : BS w' v bs :=
  let ⟨a, c, e, l, hc⟩ := h; ⟨a, c, e, l, hc.ext k⟩

theorem BS.of {w : World} {a : Option Addr} {n c : Nat} {bs : List UInt8} (hn : bs.length = n) (hl : n ≤ c) (h : Cells w a (bv bs)) : BS w (.slice a n c) bs := by
  subst hn
  exact ⟨a, c, rfl, hl, h⟩

/-- A row of slices of bytes. -/
def BSs (w : World) (a : Option Addr) (xs : List (List UInt8)) : Prop :=
  ∀ i bs, xs[i]? = some bs → ∃ x v, a = some x ∧ w.cell? (x.add i) = some v ∧ BS w v bs

theorem BSs.ext {w w' : World} {a : Option Addr} {xs : List (List UInt8)} (h : BSs w a xs) (k : Ext w w') : BSs w' a xs :=
  fun i bs hb => let ⟨x, v, e, hc, hv⟩ := h i bs hb; ⟨x, v, e, k.cell hc, hv.ext k⟩

theorem BSs.get {w : World} {a : Option Addr} {xs : List (List UInt8)} (h : BSs w a xs) {i : Nat} (hi : i < xs.length) :
    ∃ x b c, a = some x ∧ w.cell? (x.add i) = some (.slice b xs[i].length c) ∧ xs[i].length ≤ c ∧ Cells w b (bv xs[i]) := by
  obtain ⟨x, v, e, hc, b, c, rfl, hl, hb⟩ := h i xs[i] (List.getElem?_eq_getElem hi)
  exact ⟨x, b, c, e, hc, hl, hb⟩

theorem BSs.two {w : World} {a : Option Addr} {v u : Value} {xs ys : List UInt8} (h : Cells w a [v, u]) (hv : BS w v xs) (hu : BS w u ys) : BSs w a [xs, ys] := by
  intro i bs hi
  match i with
  | 0 =>
    simp at hi; subst hi
    obtain ⟨x, e, hc⟩ := h 0 v rfl
    exact ⟨x, v, e, hc, hv⟩
  | 1 =>
    simp at hi; subst hi
    obtain ⟨x, e, hc⟩ := h 1 u rfl
    exact ⟨x, u, e, hc, hu⟩
  | n + 2 => simp at hi

theorem cell_new (w : World) (C : Array Value) (t : TypeId) (fr : Nat × Nat) (j : Nat) : (w.alloc (.cells C t fr)).cell? ⟨w.heap.size, j, none⟩ = C[j]? := World.cell?_alloc_mark w C t fr j

theorem Cells.new (w : World) (C : Array Value) (t : TypeId) (fr : Nat × Nat) : Cells (w.alloc (.cells C t fr)) (some ⟨w.heap.size, 0, none⟩) C.toList := by
  intro i v h
  refine ⟨_, rfl, ?_⟩
  have e : (⟨w.heap.size, 0, none⟩ : Addr).add i = ⟨w.heap.size, i, none⟩ := by unfold Addr.add; split <;> simp_all
  rw [e, cell_new, ← Array.getElem?_toList]
  exact h

theorem Cells.new_at {w : World} {g : Nat} (hg : w.heap.size = g) (C : Array Value) (t : TypeId) (fr : Nat × Nat) : Cells (w.alloc (.cells C t fr)) (some ⟨g, 0, none⟩) C.toList := by
  subst hg
  exact Cells.new w C t fr

theorem Cells.lit {w : World} {g : Nat} (hg : w.heap.size = g) (cs : List Value) (t : TypeId) (fr : Nat × Nat) : Cells (w.alloc (.cells cs.toArray t fr)) (some ⟨g, 0, none⟩) cs := by
  have h := Cells.new_at hg cs.toArray t fr
  simpa using h

theorem ret_bool {a b : Bool} (h : a = b) : Ending.returned (.bool a) = .returned (.bool b) := by rw [h]
theorem ret_int {k : IntKind} {a b : Int} (h : a = b) : Ending.returned (.int k a) = .returned (.int k b) := by rw [h]
/-- The string of bytes. -/
def bstr (bs : List UInt8) : ByteArray := ⟨bs.toArray⟩
theorem bstr_data (bs : List UInt8) : (bstr bs).data.toList = bs := by simp [bstr]
theorem bstr_size (bs : List UInt8) : (bstr bs).size = bs.length := by simp [bstr, ByteArray.size]
theorem bstr_of (s : ByteArray) : bstr s.data.toList = s := by cases s; simp [bstr]
theorem bstr_inj {a b : List UInt8} (h : bstr a = bstr b) : a = b := by rw [← bstr_data a, h, bstr_data]

theorem bstr_append (a b : List UInt8) : bstr a ++ bstr b = bstr (a ++ b) := by
  apply ByteArray.ext
  simp [bstr]
theorem str_append_size (a b : ByteArray) : (a ++ b).size = a.size + b.size := ByteArray.size_append

theorem str_len (s : ByteArray) : s.data.toList.length = s.size := by rw [Array.length_toList]; rfl
theorem str_get (s : ByteArray) (k : Nat) (h : k < s.size) : s[k] = s.data.toList[k]'(by rw [str_len]; exact h) := rfl

theorem conv_str {P : Program} {src dst e : TypeId} (hs : P.underlying src = some (.slice e)) (he : P.underlying e = some (.int .u8)) (hd : P.underlying dst = some .string)
    {w : World} {a : Option Addr} {n c : Nat} {bs : List UInt8} (hn : bs.length = n) (h : Cells w a (bv bs)) :
    (convert src dst (.slice a n c)).run P w = .ok (.string (bstr bs)) w := by
  subst hn
  cases bs with
  | nil =>
    cases a with
    | none =>
      rw [run_convert_bytes_nil w src e hs he _ _ dst hd]; rfl
    | some x => exact run_convert_bytes_back w src dst e x c [] hs he hd (fun j hj => by simp at hj)
  | cons b bs =>
    obtain ⟨x, rfl, _⟩ := h 0 _ rfl
    exact run_convert_bytes_back w src dst e x c (b :: bs) hs he hd (fun j hj => by
      obtain ⟨y, hy, hc⟩ := h.byte hj
      cases hy
      exact hc)

theorem add_zero (x : Addr) : x.add 0 = x := rfl
theorem add_new (g j : Nat) : (⟨g, 0, none⟩ : Addr).add j = ⟨g, j, none⟩ := by unfold Addr.add; split <;> simp_all

end Go.Proofs.YtcnhbodemabbdaaDoor
