/- Trees and commits in memory. -/
import Derived.Test.YtcnhbodemabbdaaDoorQ13
import Derived.Test.YtcnhbodemabbdaaDoorQ14
import Derived.Test.YtcnhbodemabbdaaDoorQ26
import Derived.Great.BuildSlice
namespace Go.Proofs.YtcnhbodemabbdaaDoor
open Go.RowKit
set_option linter.unusedVariables false

def prC (p : Pr) : List Value := [.string p.1, .string p.2]
def kdC (k : Kd) : List Value := .string k.1 :: bv k.2
/-- A tree's parts in memory. -/
structure TrAt (w : World) (t : Tr) (pa ka : Option Addr) (P K pc kc : Nat) : Prop where
  hp : t.pairs.length = P
  hk : t.kids.length = K
  lp : P ≤ pc
  lk : K ≤ kc
  cp : Row w pa 2 (t.pairs.map prC)
  ck : Row w ka 34 (t.kids.map kdC)
  bp : P ≤ 140737488351232
  bk : K ≤ 140737488351232
  sp : ∀ p ∈ t.pairs, p.1.size ≤ 140737488351232 ∧ p.2.size ≤ 140737488351232
  sk : ∀ k ∈ t.kids, k.1.size ≤ 140737488351232 ∧ k.2.length = 33
theorem TrAt.ext {w w' : World} {t : Tr} {pa ka : Option Addr} {P K pc kc : Nat} (h : TrAt w t pa ka P K pc kc) (k : Ext w w') : TrAt w' t pa ka P K pc kc :=
  ⟨h.hp, h.hk, h.lp, h.lk, h.cp.ext k, h.ck.ext k, h.bp, h.bk, h.sp, h.sk⟩
abbrev tra (pa : Option Addr) (P pc : Nat) (ka : Option Addr) (K kc : Nat) : Value := .agg #[.slice pa P pc, .slice ka K kc]
/-- A commit's parts in memory. -/
structure CmAt (w : World) (c : Cm) (qa : Option Addr) (Q qc : Nat) : Prop where
  hr : c.root.length = 33
  hq : c.parents.length = Q
  lq : Q ≤ qc
  cq : Row w qa 33 (c.parents.map bv)
  bq : Q ≤ 140737488351232
  sq : ∀ p ∈ c.parents, p.length = 33
  sn : c.note.size ≤ 140737488351232
  n0 : -9223372036854775808 ≤ c.num
  n1 : c.num ≤ 9223372036854775807
theorem CmAt.ext {w w' : World} {c : Cm} {qa : Option Addr} {Q qc : Nat} (h : CmAt w c qa Q qc) (k : Ext w w') : CmAt w' c qa Q qc :=
  ⟨h.hr, h.hq, h.lq, h.cq.ext k, h.bq, h.sq, h.sn, h.n0, h.n1⟩
def cmC (c : Cm) (qa : Option Addr) (Q qc : Nat) : List Value := bv c.root ++ [.slice qa Q qc, .string c.note, .int .i64 c.num]
abbrev cma (c : Cm) (qa : Option Addr) (Q qc : Nat) : Value := .agg (cmC c qa Q qc).toArray
theorem prC_len (p : Pr) : (prC p).length = 2 := rfl
theorem kdC_len {k : Kd} (h : k.2.length = 33) : (kdC k).length = 34 := by simp [kdC, bv, h]
theorem pr_row {w : World} {a : Option Addr} {ps : List Pr} (h : Row w a 2 (ps.map prC)) {i : Nat} (hi : i < ps.length) :
    ∃ x, a = some x ∧ w.cell? (x.add (i * 2)) = some (.string ps[i].1) ∧ w.cell? ((x.add (i * 2)).add 1) = some (.string ps[i].2) := by
  obtain ⟨x, hx, hc⟩ := h.get (i := i) (by simpa using hi)
  rw [List.getElem_map] at hc
  exact ⟨x, hx, hc 0 _ rfl, hc 1 _ rfl⟩
theorem pr_info : (Tryd.prog.info? 65).map (·.size) = some 2 := by kernel_rfl
theorem kd_info : (Tryd.prog.info? 77).map (·.size) = some 34 := by kernel_rfl
theorem cm_info : (Tryd.prog.info? 42).map (·.size) = some 36 := by kernel_rfl
theorem tr_info : (Tryd.prog.info? 73).map (·.size) = some 2 := by kernel_rfl
theorem prC_one (p : Pr) : ∀ v ∈ prC p, v.oneCell' = true := by
  intro v hv
  simp only [prC, List.mem_cons, List.not_mem_nil, or_false] at hv
  rcases hv with rfl | rfl <;> rfl
theorem kdC_one (k : Kd) : ∀ v ∈ kdC k, v.oneCell' = true := by
  intro v hv
  rcases List.mem_cons.1 hv with rfl | hv
  · rfl
  · exact bv_cells _ v hv
/-- The two cells of a boxed tree. -/
theorem tree_cells {w : World} {g : Nat} {pa ka : Option Addr} {P K pc kc : Nat} (h : Blk w g 73 #[.slice pa P pc, .slice ka K kc]) :
    w.cell? ⟨g, 0, none⟩ = some (.slice pa P pc) ∧ w.cell? ⟨g, 1, none⟩ = some (.slice ka K kc) := ⟨h.cell 0, h.cell 1⟩
theorem pair_cells {w : World} {g : Nat} {p : Pr} (h : Blk w g 65 (prC p).toArray) : w.cell? ⟨g, 0, none⟩ = some (.string p.1) ∧ w.cell? ⟨g, 1, none⟩ = some (.string p.2) := ⟨h.cell 0, h.cell 1⟩

section
variable (w : World) (p : Addr)
theorem f_tree0 : (Instr.fieldAt 73 (.pointer (some p)) 0).run Tryd.prog w = .ok (.pointer (some p)) w := by go_simp
theorem f_tree1 : (Instr.fieldAt 73 (.pointer (some p)) 1).run Tryd.prog w = .ok (.pointer (some (p.add 1))) w := by go_simp
theorem f_kid0 : (Instr.fieldAt 77 (.pointer (some p)) 0).run Tryd.prog w = .ok (.pointer (some p)) w := by go_simp
theorem f_kid1 : (Instr.fieldAt 77 (.pointer (some p)) 1).run Tryd.prog w = .ok (.pointer (some (p.add 1))) w := by go_simp
theorem f_cm0 : (Instr.fieldAt 42 (.pointer (some p)) 0).run Tryd.prog w = .ok (.pointer (some p)) w := by go_simp
theorem f_cm1 : (Instr.fieldAt 42 (.pointer (some p)) 1).run Tryd.prog w = .ok (.pointer (some (p.add 33))) w := by go_simp
theorem f_cm2 : (Instr.fieldAt 42 (.pointer (some p)) 2).run Tryd.prog w = .ok (.pointer (some (p.add 34))) w := by go_simp
theorem f_cm3 : (Instr.fieldAt 42 (.pointer (some p)) 3).run Tryd.prog w = .ok (.pointer (some (p.add 35))) w := by go_simp
variable {w} {p}
theorem ld_str {s : ByteArray} (h : w.cell? p = some (.string s)) : (Instr.loadAt 9 (.pointer (some p))).run Tryd.prog w = .ok (.string s) w := by go_simp
theorem ld_u8 {c : Int} (h : w.cell? p = some (.int .u8 c)) : (Instr.loadAt 5 (.pointer (some p))).run Tryd.prog w = .ok (.int .u8 c) w := by go_simp
theorem ld_int {c : Int} (h : w.cell? p = some (.int .i64 c)) : (Instr.loadAt 3 (.pointer (some p))).run Tryd.prog w = .ok (.int .i64 c) w := by go_simp
theorem ld_kids {a : Option Addr} {n c : Nat} (h : w.cell? p = some (.slice a n c)) : (Instr.loadAt 71 (.pointer (some p))).run Tryd.prog w = .ok (.slice a n c) w := by go_simp
theorem ld_pairs {a : Option Addr} {n c : Nat} (h : w.cell? p = some (.slice a n c)) : (Instr.loadAt 22 (.pointer (some p))).run Tryd.prog w = .ok (.slice a n c) w := by go_simp
theorem ix_kid {a : Addr} {n c i : Nat} {z : Int} (hz : z = (i : Int)) (h : i < n) : (Instr.indexAt 71 (.slice (some a) n c) (.int .i64 z)).run Tryd.prog w = .ok (.pointer (some (a.add (i * 34)))) w := by
  subst hz
  have h1 : (0 : Int) ≤ (i : Int) := by omega
  have h2 : (i : Int) < (n : Int) := by omega
  go_simp
end
theorem kd_row {w : World} {a : Option Addr} {ks : List Kd} (h : Row w a 34 (ks.map kdC)) {i : Nat} (hi : i < ks.length) :
    ∃ x, a = some x ∧ w.cell? (x.add (i * 34)) = some (.string ks[i].1) ∧ Cells w (some ((x.add (i * 34)).add 1)) (bv ks[i].2) ∧ ∀ j v, (kdC ks[i])[j]? = some v → w.cell? ((x.add (i * 34)).add j) = some v := by
  obtain ⟨x, hx, hc⟩ := h.get (i := i) (by simpa using hi)
  rw [List.getElem_map] at hc
  exact ⟨x, hx, hc 0 _ rfl, fun j v hj => ⟨_, rfl, by rw [add_add, Nat.add_comm 1 j]; exact hc (j + 1) v hj⟩, hc⟩
theorem Cells.head {w : World} {p : Addr} {b : List UInt8} (h : Cells w (some p) (bv b)) (hb : 0 < b.length) : w.cell? p = some (.int .u8 (idKind b).toNat) := by
  obtain ⟨x, hx, hc⟩ := h.byte hb
  cases hx
  have e : idKind b = b[0] := by unfold idKind; rw [List.getD_eq_getElem?_getD, List.getElem?_eq_getElem hb]; rfl
  rw [e]
  exact hc
theorem kid_cells {w : World} {g : Nat} {k : Kd} (h : Blk w g 77 (kdC k).toArray) : w.cell? ⟨g, 0, none⟩ = some (.string k.1) ∧ Cells w (some ⟨g, 1, none⟩) (bv k.2) := by
  refine ⟨h.cell 0, fun j v hv => ⟨_, rfl, ?_⟩⟩
  have := h.cell (1 + j)
  have e : (⟨g, 1, none⟩ : Addr).add j = ⟨g, 1 + j, none⟩ := by
    unfold Addr.add
    by_cases hj : j = 0
    · subst hj; rfl
    · rw [if_neg hj]
  rw [e, this, ← Array.getElem?_toList, List.toList_toArray, Nat.add_comm 1 j]
  exact hv
end Go.Proofs.YtcnhbodemabbdaaDoor
/- Structs and slice literals that bear a name, put together. Printed by wip/mkobjbuild.py. -/
namespace Go.Proofs.YtcnhbodemabbdaaDoor
open Go.RowKit
set_option linter.unusedVariables false

theorem len_cons {α : Type} {n : Nat} {x : List α} (h : x.length = n + 1) : ∃ a l, x = a :: l ∧ l.length = n := by
  cases x with
  | nil => cases h
  | cons a l => exact ⟨a, l, rfl, by simpa using h⟩
theorem list33 {α : Type} {x : List α} (h : x.length = 33) : ∃ b0 b1 b2 b3 b4 b5 b6 b7 b8 b9 b10 b11 b12 b13 b14 b15 b16 b17 b18 b19 b20 b21 b22 b23 b24 b25 b26 b27 b28 b29 b30 b31 b32 : α, x = [b0, b1, b2, b3, b4, b5, b6, b7, b8, b9, b10, b11, b12, b13, b14, b15, b16, b17, b18, b19, b20, b21, b22, b23, b24, b25, b26, b27, b28, b29, b30, b31, b32] := by
  obtain ⟨b0, x0, e0, h0⟩ := len_cons h
  obtain ⟨b1, x1, e1, h1⟩ := len_cons h0
  obtain ⟨b2, x2, e2, h2⟩ := len_cons h1
  obtain ⟨b3, x3, e3, h3⟩ := len_cons h2
  obtain ⟨b4, x4, e4, h4⟩ := len_cons h3
  obtain ⟨b5, x5, e5, h5⟩ := len_cons h4
  obtain ⟨b6, x6, e6, h6⟩ := len_cons h5
  obtain ⟨b7, x7, e7, h7⟩ := len_cons h6
  obtain ⟨b8, x8, e8, h8⟩ := len_cons h7
  obtain ⟨b9, x9, e9, h9⟩ := len_cons h8
  obtain ⟨b10, x10, e10, h10⟩ := len_cons h9
  obtain ⟨b11, x11, e11, h11⟩ := len_cons h10
  obtain ⟨b12, x12, e12, h12⟩ := len_cons h11
  obtain ⟨b13, x13, e13, h13⟩ := len_cons h12
  obtain ⟨b14, x14, e14, h14⟩ := len_cons h13
  obtain ⟨b15, x15, e15, h15⟩ := len_cons h14
  obtain ⟨b16, x16, e16, h16⟩ := len_cons h15
  obtain ⟨b17, x17, e17, h17⟩ := len_cons h16
  obtain ⟨b18, x18, e18, h18⟩ := len_cons h17
  obtain ⟨b19, x19, e19, h19⟩ := len_cons h18
  obtain ⟨b20, x20, e20, h20⟩ := len_cons h19
  obtain ⟨b21, x21, e21, h21⟩ := len_cons h20
  obtain ⟨b22, x22, e22, h22⟩ := len_cons h21
  obtain ⟨b23, x23, e23, h23⟩ := len_cons h22
  obtain ⟨b24, x24, e24, h24⟩ := len_cons h23
  obtain ⟨b25, x25, e25, h25⟩ := len_cons h24
  obtain ⟨b26, x26, e26, h26⟩ := len_cons h25
  obtain ⟨b27, x27, e27, h27⟩ := len_cons h26
  obtain ⟨b28, x28, e28, h28⟩ := len_cons h27
  obtain ⟨b29, x29, e29, h29⟩ := len_cons h28
  obtain ⟨b30, x30, e30, h30⟩ := len_cons h29
  obtain ⟨b31, x31, e31, h31⟩ := len_cons h30
  obtain ⟨b32, x32, e32, h32⟩ := len_cons h31
  have e33 := List.eq_nil_of_length_eq_zero h32
  subst e0 e1 e2 e3 e4 e5 e6 e7 e8 e9 e10 e11 e12 e13 e14 e15 e16 e17 e18 e19 e20 e21 e22 e23 e24 e25 e26 e27 e28 e29 e30 e31 e32 e33
  exact ⟨b0, b1, b2, b3, b4, b5, b6, b7, b8, b9, b10, b11, b12, b13, b14, b15, b16, b17, b18, b19, b20, b21, b22, b23, b24, b25, b26, b27, b28, b29, b30, b31, b32, rfl⟩
theorem build_kid (w : World) (s : ByteArray) (x : List UInt8) (hx : x.length = 33) : (Instr.build 77 #[(0, .string s), (1, .agg (bv x).toArray)]).run Tryd.prog w = .ok (.agg (kdC (s, x)).toArray) w := by
  obtain ⟨b0, b1, b2, b3, b4, b5, b6, b7, b8, b9, b10, b11, b12, b13, b14, b15, b16, b17, b18, b19, b20, b21, b22, b23, b24, b25, b26, b27, b28, b29, b30, b31, b32, rfl⟩ := list33 hx
  exact run_build w 77 _ _ (by kernel_rfl)
theorem build_pair (w : World) (s t : ByteArray) : (Instr.build 65 #[(0, .string s), (1, .string t)]).run Tryd.prog w = .ok (.agg (prC (s, t)).toArray) w := run_build w 65 _ _ (by kernel_rfl)
theorem build_cm1 (w : World) (x : List UInt8) (hx : x.length = 33) : (Instr.build 42 #[(0, .agg (bv x).toArray)]).run Tryd.prog w = .ok (.agg (cmC ⟨x, [], ByteArray.empty, 0⟩ none 0 0).toArray) w := by
  obtain ⟨b0, b1, b2, b3, b4, b5, b6, b7, b8, b9, b10, b11, b12, b13, b14, b15, b16, b17, b18, b19, b20, b21, b22, b23, b24, b25, b26, b27, b28, b29, b30, b31, b32, rfl⟩ := list33 hx
  exact run_build w 42 _ _ (by kernel_rfl)
theorem run_lit1 {P : Program} (w : World) (t e : TypeId) (v : Value) (cells : Array Value) (sz : Nat) (z : Value) (hu : P.underlying t = some (.slice e)) (hi : (P.info? e).map (fun i => (i.zero, i.size)) = some (some z, sz)) (hs : ¬ 1 * sz > 2 ^ 24) (hp : ¬ 1 * sz = 0)
    (h : Instr.fill (fun i => some (i * sz, sz)) ((Array.range (1 * sz)).map (z.cells[· % z.cells.size]!)) [(0, v)] = some cells) :
    (Instr.buildSlice t 1 #[(0, v)]).run P w = .ok (.slice (some ⟨w.heap.size, 0, none⟩) 1 1) (w.alloc (.cells cells e)) := by
  obtain ⟨ie, hie, hzz⟩ := Option.map_eq_some_iff.1 hi
  simp only [Prod.mk.injEq] at hzz
  obtain ⟨hz, hsz⟩ := hzz
  subst hsz
  exact run_buildSlice w t e 1 #[(0, v)] cells ie z hu hie hz hs hp h
theorem lit1_kid (w : World) (s : ByteArray) (x : List UInt8) (hx : x.length = 33) : (Instr.buildSlice 71 1 #[(0, .agg (kdC (s, x)).toArray)]).run Tryd.prog w = .ok (.slice (some ⟨w.heap.size, 0, none⟩) 1 1) (w.alloc (.cells (kdC (s, x)).toArray 77)) := by
  obtain ⟨b0, b1, b2, b3, b4, b5, b6, b7, b8, b9, b10, b11, b12, b13, b14, b15, b16, b17, b18, b19, b20, b21, b22, b23, b24, b25, b26, b27, b28, b29, b30, b31, b32, rfl⟩ := list33 hx
  exact run_lit1 w 71 77 _ _ 34 (.agg (.string ByteArray.empty :: bv idNone).toArray) Tryd.underlying71 (by kernel_rfl) (by decide) (by decide) (by kernel_rfl)
theorem lit1_pair (w : World) (s t : ByteArray) : (Instr.buildSlice 22 1 #[(0, .agg (prC (s, t)).toArray)]).run Tryd.prog w = .ok (.slice (some ⟨w.heap.size, 0, none⟩) 1 1) (w.alloc (.cells (prC (s, t)).toArray 65)) :=
  run_lit1 w 22 65 _ _ 2 (.agg #[.string ByteArray.empty, .string ByteArray.empty]) Tryd.underlying22 (by kernel_rfl) (by decide) (by decide) (by kernel_rfl)
theorem lit1_id (w : World) (x : List UInt8) (hx : x.length = 33) : (Instr.buildSlice 37 1 #[(0, .agg (bv x).toArray)]).run Tryd.prog w = .ok (.slice (some ⟨w.heap.size, 0, none⟩) 1 1) (w.alloc (.cells (bv x).toArray 27)) := by
  obtain ⟨b0, b1, b2, b3, b4, b5, b6, b7, b8, b9, b10, b11, b12, b13, b14, b15, b16, b17, b18, b19, b20, b21, b22, b23, b24, b25, b26, b27, b28, b29, b30, b31, b32, rfl⟩ := list33 hx
  exact run_lit1 w 37 27 _ _ 33 (.agg (bv idNone).toArray) Tryd.underlying37 (by kernel_rfl) (by decide) (by decide) (by kernel_rfl)
theorem st_pairs (w : World) (p : Addr) (A : Option Addr) (n c : Nat) (old : Value) (h : w.cell? p = some old) (hf : w.frozen? p = false) : (Instr.storeAt 22 (.pointer (some p)) (.slice A n c)).run Tryd.prog w = .ok () (w.setCell p (.slice A n c)) := by go_simp
theorem st_kids (w : World) (p : Addr) (A : Option Addr) (n c : Nat) (old : Value) (h : w.cell? p = some old) (hf : w.frozen? p = false) : (Instr.storeAt 71 (.pointer (some p)) (.slice A n c)).run Tryd.prog w = .ok () (w.setCell p (.slice A n c)) := by go_simp
theorem st_ids (w : World) (p : Addr) (A : Option Addr) (n c : Nat) (old : Value) (h : w.cell? p = some old) (hf : w.frozen? p = false) : (Instr.storeAt 37 (.pointer (some p)) (.slice A n c)).run Tryd.prog w = .ok () (w.setCell p (.slice A n c)) := by go_simp
theorem prs_snoc (ps : List Pr) (p : Pr) : (ps.map prC).flatten ++ prC p = ((ps ++ [p]).map prC).flatten := by simp
theorem kds_snoc (ks : List Kd) (k : Kd) : (ks.map kdC).flatten ++ kdC k = ((ks ++ [k]).map kdC).flatten := by simp
theorem ids_snoc (xs : List (List UInt8)) (x : List UInt8) : (xs.map bv).flatten ++ bv x = ((xs ++ [x]).map bv).flatten := by simp
end Go.Proofs.YtcnhbodemabbdaaDoor
