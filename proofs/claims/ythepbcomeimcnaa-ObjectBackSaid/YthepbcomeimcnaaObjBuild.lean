/- Structs and slice literals that bear a name, put together. Printed by wip/mkobjbuild.py. -/
import Derived.Test.YthepbcomeimcnaaObjMem
import Derived.Great.BuildSlice
namespace Go.Proofs.Ythepbcomeimcnaa
open Go.RowKit
set_option linter.unusedVariables false

theorem len_cons {α : Type} {n : Nat} {x : List α} (h : x.length = n + 1) : ∃ a l, x = a :: l ∧ l.length = n := by
  cases x with
  | nil => cases h
  | cons a l => exact ⟨a, l, rfl, by simpa using h⟩
theorem list33 {α : Type} {x : List α} (h : x.length = 33) : ∃ b0 b1 b2 b3 b4 b5 b6 b7 b8 b9 b10 b11 b12 b13 b14 b15 b16 b17 b18 b19 b20 b21 b22 b23 b24 b25 b26 b27 b28 b29 b30 b31 b32 : α, x = [b0, b1, b2, b3, b4, b5, b6, b7, b8, b9, b10, b11, b12, b13, b14, b15, b16, b17, b18, b19, b20, b21, b22, b23, b24, b25, b26, b27, b28, b29, b30, b31, b32] := by
  obtain ⟨b0, x0, e0, h0⟩ := len_cons h
  obtain ⟨b1, x1, e1, h1⟩ := len_cons h0
  obtain ⟨b2, x2, e2, h2⟩ := len_cons h1
  obtain ⟨b3, x3, e3, h3⟩ := len_cons h2
  obtain ⟨b4, x4, e4, h4⟩ := len_cons h3
  obtain ⟨b5, x5, e5, h5⟩ := len_cons h4
  obtain ⟨b6, x6, e6, h6⟩ := len_cons h5
  obtain ⟨b7, x7, e7, h7⟩ := len_cons h6
  obtain ⟨b8, x8, e8, h8⟩ := len_cons h7
  obtain ⟨b9, x9, e9, h9⟩ := len_cons h8
  obtain ⟨b10, x10, e10, h10⟩ := len_cons h9
  obtain ⟨b11, x11, e11, h11⟩ := len_cons h10
  obtain ⟨b12, x12, e12, h12⟩ := len_cons h11
  obtain ⟨b13, x13, e13, h13⟩ := len_cons h12
  obtain ⟨b14, x14, e14, h14⟩ := len_cons h13
  obtain ⟨b15, x15, e15, h15⟩ := len_cons h14
  obtain ⟨b16, x16, e16, h16⟩ := len_cons h15
  obtain ⟨b17, x17, e17, h17⟩ := len_cons h16
  obtain ⟨b18, x18, e18, h18⟩ := len_cons h17
  obtain ⟨b19, x19, e19, h19⟩ := len_cons h18
  obtain ⟨b20, x20, e20, h20⟩ := len_cons h19
  obtain ⟨b21, x21, e21, h21⟩ := len_cons h20
  obtain ⟨b22, x22, e22, h22⟩ := len_cons h21
  obtain ⟨b23, x23, e23, h23⟩ := len_cons h22
  obtain ⟨b24, x24, e24, h24⟩ := len_cons h23
  obtain ⟨b25, x25, e25, h25⟩ := len_cons h24
  obtain ⟨b26, x26, e26, h26⟩ := len_cons h25
  obtain ⟨b27, x27, e27, h27⟩ := len_cons h26
  obtain ⟨b28, x28, e28, h28⟩ := len_cons h27
  obtain ⟨b29, x29, e29, h29⟩ := len_cons h28
  obtain ⟨b30, x30, e30, h30⟩ := len_cons h29
  obtain ⟨b31, x31, e31, h31⟩ := len_cons h30
  obtain ⟨b32, x32, e32, h32⟩ := len_cons h31
  have e33 := List.eq_nil_of_length_eq_zero h32
  subst e0 e1 e2 e3 e4 e5 e6 e7 e8 e9 e10 e11 e12 e13 e14 e15 e16 e17 e18 e19 e20 e21 e22 e23 e24 e25 e26 e27 e28 e29 e30 e31 e32 e33
  exact ⟨b0, b1, b2, b3, b4, b5, b6, b7, b8, b9, b10, b11, b12, b13, b14, b15, b16, b17, b18, b19, b20, b21, b22, b23, b24, b25, b26, b27, b28, b29, b30, b31, b32, rfl⟩
theorem build_kid (w : World) (s : ByteArray) (x : List UInt8) (hx : x.length = 33) : (Instr.build 59 #[(0, .string s), (1, .agg (bv x).toArray)]).run Try.prog w = .ok (.agg (kdC (s, x)).toArray) w := by
  obtain ⟨b0, b1, b2, b3, b4, b5, b6, b7, b8, b9, b10, b11, b12, b13, b14, b15, b16, b17, b18, b19, b20, b21, b22, b23, b24, b25, b26, b27, b28, b29, b30, b31, b32, rfl⟩ := list33 hx
  exact run_build w 59 _ _ (by kernel_rfl)
theorem build_pair (w : World) (s t : ByteArray) : (Instr.build 43 #[(0, .string s), (1, .string t)]).run Try.prog w = .ok (.agg (prC (s, t)).toArray) w := run_build w 43 _ _ (by kernel_rfl)
theorem build_cm1 (w : World) (x : List UInt8) (hx : x.length = 33) : (Instr.build 31 #[(0, .agg (bv x).toArray)]).run Try.prog w = .ok (.agg (cmC ⟨x, [], ByteArray.empty, 0⟩ none 0 0).toArray) w := by
  obtain ⟨b0, b1, b2, b3, b4, b5, b6, b7, b8, b9, b10, b11, b12, b13, b14, b15, b16, b17, b18, b19, b20, b21, b22, b23, b24, b25, b26, b27, b28, b29, b30, b31, b32, rfl⟩ := list33 hx
  exact run_build w 31 _ _ (by kernel_rfl)
theorem run_lit1 {P : Program} (w : World) (t e : TypeId) (v : Value) (cells : Array Value) (sz : Nat) (z : Value) (hu : P.underlying t = some (.slice e)) (hi : (P.info? e).map (fun i => (i.zero, i.size)) = some (some z, sz)) (hs : ¬ 1 * sz > 2 ^ 24) (hp : ¬ 1 * sz = 0)
    (h : Instr.fill (fun i => some (i * sz, sz)) ((Array.range (1 * sz)).map (z.cells[· % z.cells.size]!)) [(0, v)] = some cells) :
    (Instr.buildSlice t 1 #[(0, v)]).run P w = .ok (.slice (some ⟨w.heap.size, 0, none⟩) 1 1) (w.alloc (.cells cells e)) := by
  obtain ⟨ie, hie, hzz⟩ := Option.map_eq_some_iff.1 hi
  simp only [Prod.mk.injEq] at hzz
  obtain ⟨hz, hsz⟩ := hzz
  subst hsz
  exact run_buildSlice w t e 1 #[(0, v)] cells ie z hu hie hz hs hp h
theorem lit1_kid (w : World) (s : ByteArray) (x : List UInt8) (hx : x.length = 33) : (Instr.buildSlice 23 1 #[(0, .agg (kdC (s, x)).toArray)]).run Try.prog w = .ok (.slice (some ⟨w.heap.size, 0, none⟩) 1 1) (w.alloc (.cells (kdC (s, x)).toArray 59)) := by
  obtain ⟨b0, b1, b2, b3, b4, b5, b6, b7, b8, b9, b10, b11, b12, b13, b14, b15, b16, b17, b18, b19, b20, b21, b22, b23, b24, b25, b26, b27, b28, b29, b30, b31, b32, rfl⟩ := list33 hx
  exact run_lit1 w 23 59 _ _ 34 (.agg (.string ByteArray.empty :: bv idNone).toArray) Try.underlying23 (by kernel_rfl) (by decide) (by decide) (by kernel_rfl)
theorem lit1_pair (w : World) (s t : ByteArray) : (Instr.buildSlice 22 1 #[(0, .agg (prC (s, t)).toArray)]).run Try.prog w = .ok (.slice (some ⟨w.heap.size, 0, none⟩) 1 1) (w.alloc (.cells (prC (s, t)).toArray 43)) :=
  run_lit1 w 22 43 _ _ 2 (.agg #[.string ByteArray.empty, .string ByteArray.empty]) Try.underlying22 (by kernel_rfl) (by decide) (by decide) (by kernel_rfl)
theorem lit1_id (w : World) (x : List UInt8) (hx : x.length = 33) : (Instr.buildSlice 29 1 #[(0, .agg (bv x).toArray)]).run Try.prog w = .ok (.slice (some ⟨w.heap.size, 0, none⟩) 1 1) (w.alloc (.cells (bv x).toArray 28)) := by
  obtain ⟨b0, b1, b2, b3, b4, b5, b6, b7, b8, b9, b10, b11, b12, b13, b14, b15, b16, b17, b18, b19, b20, b21, b22, b23, b24, b25, b26, b27, b28, b29, b30, b31, b32, rfl⟩ := list33 hx
  exact run_lit1 w 29 28 _ _ 33 (.agg (bv idNone).toArray) Try.underlying29 (by kernel_rfl) (by decide) (by decide) (by kernel_rfl)
theorem st_pairs (w : World) (p : Addr) (A : Option Addr) (n c : Nat) (old : Value) (h : w.cell? p = some old) (hf : w.frozen? p = false) : (Instr.storeAt 22 (.pointer (some p)) (.slice A n c)).run Try.prog w = .ok () (w.setCell p (.slice A n c)) := by go_simp
theorem st_kids (w : World) (p : Addr) (A : Option Addr) (n c : Nat) (old : Value) (h : w.cell? p = some old) (hf : w.frozen? p = false) : (Instr.storeAt 23 (.pointer (some p)) (.slice A n c)).run Try.prog w = .ok () (w.setCell p (.slice A n c)) := by go_simp
theorem st_ids (w : World) (p : Addr) (A : Option Addr) (n c : Nat) (old : Value) (h : w.cell? p = some old) (hf : w.frozen? p = false) : (Instr.storeAt 29 (.pointer (some p)) (.slice A n c)).run Try.prog w = .ok () (w.setCell p (.slice A n c)) := by go_simp
theorem prs_snoc (ps : List Pr) (p : Pr) : (ps.map prC).flatten ++ prC p = ((ps ++ [p]).map prC).flatten := by simp
theorem kds_snoc (ks : List Kd) (k : Kd) : (ks.map kdC).flatten ++ kdC k = ((ks ++ [k]).map kdC).flatten := by simp
theorem ids_snoc (xs : List (List UInt8)) (x : List UInt8) : (xs.map bv).flatten ++ bv x = ((xs ++ [x]).map bv).flatten := by simp
end Go.Proofs.Ythepbcomeimcnaa
