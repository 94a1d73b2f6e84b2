/- Names compared; the laws' own function alive. -/
import Derived.Test.YtcnhbodemabbdaaDoorQ22
import Derived.Test.YtcnhbodemabbdaaDoorQ15
import Derived.Test.YtcnhbodemabbdaaDoorQ12
import Derived.Test.YtcnhbodemabbdaaDoorQ08
import Derived.Test.YtcnhbodemabbdaaDoorQ10
import Derived.Great.BuildSlice
import Derived.WideKeyRuns
import Derived.DeepKeys3
namespace Go.Proofs.YtcnhbodemabbdaaDoor
open Go.RowKit
set_option linter.unusedVariables false

theorem idPad_len33 (k : UInt8) (bs : List UInt8) : (idPad (idName k bs)).length = 33 := idPad_len (idName_len k bs)
theorem idText_of {k : UInt8} (bs : List UInt8) (h : 0 < idN k) : idText (idPad (idName k bs)) = idName k bs := (idCan_pad (idName_can bs h)).2
theorem idGood_of {k : UInt8} (bs : List UInt8) (h : 0 < idN k) : idGood (idPad (idName k bs)) = true := (idCan_pad (idName_can bs h)).1

/-- A struct loaded, under a guard or not. -/
theorem wpList_load_w {P : Program} {ops : Array Oper} {rest : List Oper} {o : Oper} {a : Act} {w : World} {Q : Exit → Act → World → Prop} (ty : TypeId) (x : Operand) (ho : o.op = .load ty x)
    (g : Nat) (hx : a.eval x = .pointer (some ⟨g, 0, none⟩)) (hw : Region.wanted o (yielded ops a.tmps) = true) (t : TypeId) (cs : Array Value) (d : TypeDesc) (h : Blk w g t cs)
    (hu : P.underlying ty = some d) (hd : (match d with | .struct _ | .array _ _ => true | _ => false) = true) (hi : (P.info? ty).map (·.size) = some cs.size)
    (hk : wpList P ops Q rest (a.put o.dst (.agg cs)) w) : wpList P ops Q (o :: rest) a w :=
  wpList_step fun K hK => by
    rw [if_pos hw]
    exact wp_load_row ty x ho g hx t cs (0, 0) d h hu hd hi (hK _ _ hk)
/-- An operation whose guard says no. -/
theorem wpList_skip {P : Program} {ops : Array Oper} {rest : List Oper} {o : Oper} {a : Act} {w : World} {Q : Exit → Act → World → Prop} {g : Nat} {b : Bool} (hgd : o.guard = some (g, b)) (hw : Region.wanted o (yielded ops a.tmps) = false)
    (hk : wpList P ops Q rest (a.put o.dst undef) w) : wpList P ops Q (o :: rest) a w :=
  wpList_step fun K hK => by
    rw [if_neg (by rw [hw]; decide)]
    exact hK _ _ hk
end Go.Proofs.YtcnhbodemabbdaaDoor
/- Trees and commits in memory. -/
namespace Go.Proofs.YtcnhbodemabbdaaDoor
open Go.RowKit
set_option linter.unusedVariables false

def prC (p : Pr) : List Value := [.string p.1, .string p.2]
def kdC (k : Kd) : List Value := .string k.1 :: bv k.2
/-- A tree's parts in memory. -/
structure TrAt (w : World) (t : Tr) (pa ka : Option Addr) (P K pc kc : Nat) : Prop where
  hp : t.pairs.length = P
  hk : t.kids.length = K
  lp : P ≤ pc
  lk : K ≤ kc
  cp : Row w pa 2 (t.pairs.map prC)
  ck : Row w ka 34 (t.kids.map kdC)
  bp : P ≤ 140737488351232
  bk : K ≤ 140737488351232
  sp : ∀ p ∈ t.pairs, p.1.size ≤ 140737488351232 ∧ p.2.size ≤ 140737488351232
  sk : ∀ k ∈ t.kids, k.1.size ≤ 140737488351232 ∧ k.2.length = 33
theorem TrAt.ext {w w' : World} {t : Tr} {pa ka : Option Addr} {P K pc kc : Nat} (h : TrAt w t pa ka P K pc kc) (k : Ext w w') : TrAt w' t pa ka P K pc kc :=
  ⟨h.hp, h.hk, h.lp, h.lk, h.cp.ext k, h.ck.ext k, h.bp, h.bk, h.sp, h.sk⟩
abbrev tra (pa : Option Addr) (P pc : Nat) (ka : Option Addr) (K kc : Nat) : Value := .agg #[.slice pa P pc, .slice ka K kc]
/-- A commit's parts in memory. -/
structure CmAt (w : World) (c : Cm) (qa : Option Addr) (Q qc : Nat) : Prop where
  hr : c.root.length = 33
  hq : c.parents.length = Q
  lq : Q ≤ qc
  cq : Row w qa 33 (c.parents.map bv)
  bq : Q ≤ 140737488351232
  sq : ∀ p ∈ c.parents, p.length = 33
  sn : c.note.size ≤ 140737488351232
  n0 : -9223372036854775808 ≤ c.num
  n1 : c.num ≤ 9223372036854775807
theorem CmAt.ext {w w' : World} {c : Cm} {qa : Option Addr} {Q qc : Nat} (h : CmAt w c qa Q qc) (k : Ext w w') : CmAt w' c qa Q qc :=
  ⟨h.hr, h.hq, h.lq, h.cq.ext k, h.bq, h.sq, h.sn, h.n0, h.n1⟩
def cmC (c : Cm) (qa : Option Addr) (Q qc : Nat) : List Value := bv c.root ++ [.slice qa Q qc, .string c.note, .int .i64 c.num]
abbrev cma (c : Cm) (qa : Option Addr) (Q qc : Nat) : Value := .agg (cmC c qa Q qc).toArray
theorem prC_len (p : Pr) : (prC p).length = 2 := rfl
theorem kdC_len {k : Kd} (h : k.2.length = 33) : (kdC k).length = 34 := by simp [kdC, bv, h]
theorem pr_row {w : World} {a : Option Addr} {ps : List Pr} (h : Row w a 2 (ps.map prC)) {i : Nat} (hi : i < ps.length) :
    ∃ x, a = some x ∧ w.cell? (x.add (i * 2)) = some (.string ps[i].1) ∧ w.cell? ((x.add (i * 2)).add 1) = some (.string ps[i].2) := by
  obtain ⟨x, hx, hc⟩ := h.get (i := i) (by simpa using hi)
  rw [List.getElem_map] at hc
  exact ⟨x, hx, hc 0 _ rfl, hc 1 _ rfl⟩
theorem pr_info : (Tryd.prog.info? 65).map (·.size) = some 2 := by kernel_rfl
theorem kd_info : (Tryd.prog.info? 77).map (·.size) = some 34 := by kernel_rfl
theorem cm_info : (Tryd.prog.info? 42).map (·.size) = some 36 := by kernel_rfl
theorem tr_info : (Tryd.prog.info? 73).map (·.size) = some 2 := by kernel_rfl
theorem prC_one (p : Pr) : ∀ v ∈ prC p, v.oneCell' = true := by
  intro v hv
  simp only [prC, List.mem_cons, List.not_mem_nil, or_false] at hv
  rcases hv with rfl | rfl <;> rfl
theorem kdC_one (k : Kd) : ∀ v ∈ kdC k, v.oneCell' = true := by
  intro v hv
  rcases List.mem_cons.1 hv with rfl | hv
  · rfl
  · exact bv_cells _ v hv
/-- The two cells of a boxed tree. -/
theorem tree_cells {w : World} {g : Nat} {pa ka : Option Addr} {P K pc kc : Nat} (h : Blk w g 73 #[.slice pa P pc, .slice ka K kc]) :
    w.cell? ⟨g, 0, none⟩ = some (.slice pa P pc) ∧ w.cell? ⟨g, 1, none⟩ = some (.slice ka K kc) := ⟨h.cell 0, h.cell 1⟩
theorem pair_cells {w : World} {g : Nat} {p : Pr} (h : Blk w g 65 (prC p).toArray) : w.cell? ⟨g, 0, none⟩ = some (.string p.1) ∧ w.cell? ⟨g, 1, none⟩ = some (.string p.2) := ⟨h.cell 0, h.cell 1⟩

section
variable (w : World) (p : Addr)
theorem f_tree0 : (Instr.fieldAt 73 (.pointer (some p)) 0).run Tryd.prog w = .ok (.pointer (some p)) w := by go_simp
theorem f_tree1 : (Instr.fieldAt 73 (.pointer (some p)) 1).run Tryd.prog w = .ok (.pointer (some (p.add 1))) w := by go_simp
theorem f_kid0 : (Instr.fieldAt 77 (.pointer (some p)) 0).run Tryd.prog w = .ok (.pointer (some p)) w := by go_simp
theorem f_kid1 : (Instr.fieldAt 77 (.pointer (some p)) 1).run Tryd.prog w = .ok (.pointer (some (p.add 1))) w := by go_simp
theorem f_cm0 : (Instr.fieldAt 42 (.pointer (some p)) 0).run Tryd.prog w = .ok (.pointer (some p)) w := by go_simp
theorem f_cm1 : (Instr.fieldAt 42 (.pointer (some p)) 1).run Tryd.prog w = .ok (.pointer (some (p.add 33))) w := by go_simp
theorem f_cm2 : (Instr.fieldAt 42 (.pointer (some p)) 2).run Tryd.prog w = .ok (.pointer (some (p.add 34))) w := by go_simp
theorem f_cm3 : (Instr.fieldAt 42 (.pointer (some p)) 3).run Tryd.prog w = .ok (.pointer (some (p.add 35))) w := by go_simp
variable {w} {p}
theorem ld_str {s : ByteArray} (h : w.cell? p = some (.string s)) : (Instr.loadAt 9 (.pointer (some p))).run Tryd.prog w = .ok (.string s) w := by go_simp
theorem ld_u8 {c : Int} (h : w.cell? p = some (.int .u8 c)) : (Instr.loadAt 5 (.pointer (some p))).run Tryd.prog w = .ok (.int .u8 c) w := by go_simp
theorem ld_int {c : Int} (h : w.cell? p = some (.int .i64 c)) : (Instr.loadAt 3 (.pointer (some p))).run Tryd.prog w = .ok (.int .i64 c) w := by go_simp
theorem ld_kids {a : Option Addr} {n c : Nat} (h : w.cell? p = some (.slice a n c)) : (Instr.loadAt 71 (.pointer (some p))).run Tryd.prog w = .ok (.slice a n c) w := by go_simp
theorem ld_pairs {a : Option Addr} {n c : Nat} (h : w.cell? p = some (.slice a n c)) : (Instr.loadAt 22 (.pointer (some p))).run Tryd.prog w = .ok (.slice a n c) w := by go_simp
theorem ix_kid {a : Addr} {n c i : Nat} {z : Int} (hz : z = (i : Int)) (h : i < n) : (Instr.indexAt 71 (.slice (some a) n c) (.int .i64 z)).run Tryd.prog w = .ok (.pointer (some (a.add (i * 34)))) w := by
  subst hz
  have h1 : (0 : Int) ≤ (i : Int) := by omega
  have h2 : (i : Int) < (n : Int) := by omega
  go_simp
end
theorem kd_row {w : World} {a : Option Addr} {ks : List Kd} (h : Row w a 34 (ks.map kdC)) {i : Nat} (hi : i < ks.length) :
    ∃ x, a = some x ∧ w.cell? (x.add (i * 34)) = some (.string ks[i].1) ∧ Cells w (some ((x.add (i * 34)).add 1)) (bv ks[i].2) ∧ ∀ j v, (kdC ks[i])[j]? = some v → w.cell? ((x.add (i * 34)).add j) = some v := by
  obtain ⟨x, hx, hc⟩ := h.get (i := i) (by simpa using hi)
  rw [List.getElem_map] at hc
  exact ⟨x, hx, hc 0 _ rfl, fun j v hj => ⟨_, rfl, by rw [add_add, Nat.add_comm 1 j]; exact hc (j + 1) v hj⟩, hc⟩
theorem Cells.head {w : World} {p : Addr} {b : List UInt8} (h : Cells w (some p) (bv b)) (hb : 0 < b.length) : w.cell? p = some (.int .u8 (idKind b).toNat) := by
  obtain ⟨x, hx, hc⟩ := h.byte hb
  cases hx
  have e : idKind b = b[0] := by unfold idKind; rw [List.getD_eq_getElem?_getD, List.getElem?_eq_getElem hb]; rfl
  rw [e]
  exact hc
theorem kid_cells {w : World} {g : Nat} {k : Kd} (h : Blk w g 77 (kdC k).toArray) : w.cell? ⟨g, 0, none⟩ = some (.string k.1) ∧ Cells w (some ⟨g, 1, none⟩) (bv k.2) := by
  refine ⟨h.cell 0, fun j v hv => ⟨_, rfl, ?_⟩⟩
  have := h.cell (1 + j)
  have e : (⟨g, 1, none⟩ : Addr).add j = ⟨g, 1 + j, none⟩ := by
    unfold Addr.add
    by_cases hj : j = 0
    · subst hj; rfl
    · rw [if_neg hj]
  rw [e, this, ← Array.getElem?_toList, List.toList_toArray, Nat.add_comm 1 j]
  exact hv
end Go.Proofs.YtcnhbodemabbdaaDoor
/- Structs and slice literals that bear a name, put together. Printed by wip/mkobjbuild.py. -/
namespace Go.Proofs.YtcnhbodemabbdaaDoor
open Go.RowKit
set_option linter.unusedVariables false

theorem len_cons {α : Type} {n : Nat} {x : List α} (h : x.length = n + 1) : ∃ a l, x = a :: l ∧ l.length = n := by
  cases x with
  | nil => cases h
  | cons a l => exact ⟨a, l, rfl, by simpa using h⟩
theorem list33 {α : Type} {x : List α} (h : x.length = 33) : ∃ b0 b1 b2 b3 b4 b5 b6 b7 b8 b9 b10 b11 b12 b13 b14 b15 b16 b17 b18 b19 b20 b21 b22 b23 b24 b25 b26 b27 b28 b29 b30 b31 b32 : α, x = [b0, b1, b2, b3, b4, b5, b6, b7, b8, b9, b10, b11, b12, b13, b14, b15, b16, b17, b18, b19, b20, b21, b22, b23, b24, b25, b26, b27, b28, b29, b30, b31, b32] := by
  obtain ⟨b0, x0, e0, h0⟩ := len_cons h
  obtain ⟨b1, x1, e1, h1⟩ := len_cons h0
  obtain ⟨b2, x2, e2, h2⟩ := len_cons h1
  obtain ⟨b3, x3, e3, h3⟩ := len_cons h2
  obtain ⟨b4, x4, e4, h4⟩ := len_cons h3
  obtain ⟨b5, x5, e5, h5⟩ := len_cons h4
  obtain ⟨b6, x6, e6, h6⟩ := len_cons h5
  obtain ⟨b7, x7, e7, h7⟩ := len_cons h6
  obtain ⟨b8, x8, e8, h8⟩ := len_cons h7
  obtain ⟨b9, x9, e9, h9⟩ := len_cons h8
  obtain ⟨b10, x10, e10, h10⟩ := len_cons h9
  obtain ⟨b11, x11, e11, h11⟩ := len_cons h10
  obtain ⟨b12, x12, e12, h12⟩ := len_cons h11
  obtain ⟨b13, x13, e13, h13⟩ := len_cons h12
  obtain ⟨b14, x14, e14, h14⟩ := len_cons h13
  obtain ⟨b15, x15, e15, h15⟩ := len_cons h14
  obtain ⟨b16, x16, e16, h16⟩ := len_cons h15
  obtain ⟨b17, x17, e17, h17⟩ := len_cons h16
  obtain ⟨b18, x18, e18, h18⟩ := len_cons h17
  obtain ⟨b19, x19, e19, h19⟩ := len_cons h18
  obtain ⟨b20, x20, e20, h20⟩ := len_cons h19
  obtain ⟨b21, x21, e21, h21⟩ := len_cons h20
  obtain ⟨b22, x22, e22, h22⟩ := len_cons h21
  obtain ⟨b23, x23, e23, h23⟩ := len_cons h22
  obtain ⟨b24, x24, e24, h24⟩ := len_cons h23
  obtain ⟨b25, x25, e25, h25⟩ := len_cons h24
  obtain ⟨b26, x26, e26, h26⟩ := len_cons h25
  obtain ⟨b27, x27, e27, h27⟩ := len_cons h26
  obtain ⟨b28, x28, e28, h28⟩ := len_cons h27
  obtain ⟨b29, x29, e29, h29⟩ := len_cons h28
  obtain ⟨b30, x30, e30, h30⟩ := len_cons h29
  obtain ⟨b31, x31, e31, h31⟩ := len_cons h30
  obtain ⟨b32, x32, e32, h32⟩ := len_cons h31
  have e33 := List.eq_nil_of_length_eq_zero h32
  subst e0 e1 e2 e3 e4 e5 e6 e7 e8 e9 e10 e11 e12 e13 e14 e15 e16 e17 e18 e19 e20 e21 e22 e23 e24 e25 e26 e27 e28 e29 e30 e31 e32 e33
  exact ⟨b0, b1, b2, b3, b4, b5, b6, b7, b8, b9, b10, b11, b12, b13, b14, b15, b16, b17, b18, b19, b20, b21, b22, b23, b24, b25, b26, b27, b28, b29, b30, b31, b32, rfl⟩
theorem build_kid (w : World) (s : ByteArray) (x : List UInt8) (hx : x.length = 33) : (Instr.build 77 #[(0, .string s), (1, .agg (bv x).toArray)]).run Tryd.prog w = .ok (.agg (kdC (s, x)).toArray) w := by
  obtain ⟨b0, b1, b2, b3, b4, b5, b6, b7, b8, b9, b10, b11, b12, b13, b14, b15, b16, b17, b18, b19, b20, b21, b22, b23, b24, b25, b26, b27, b28, b29, b30, b31, b32, rfl⟩ := list33 hx
  exact run_build w 77 _ _ (by kernel_rfl)
theorem build_pair (w : World) (s t : ByteArray) : (Instr.build 65 #[(0, .string s), (1, .string t)]).run Tryd.prog w = .ok (.agg (prC (s, t)).toArray) w := run_build w 65 _ _ (by kernel_rfl)
theorem build_cm1 (w : World) (x : List UInt8) (hx : x.length = 33) : (Instr.build 42 #[(0, .agg (bv x).toArray)]).run Tryd.prog w = .ok (.agg (cmC ⟨x, [], ByteArray.empty, 0⟩ none 0 0).toArray) w := by
  obtain ⟨b0, b1, b2, b3, b4, b5, b6, b7, b8, b9, b10, b11, b12, b13, b14, b15, b16, b17, b18, b19, b20, b21, b22, b23, b24, b25, b26, b27, b28, b29, b30, b31, b32, rfl⟩ := list33 hx
  exact run_build w 42 _ _ (by kernel_rfl)
theorem run_lit1 {P : Program} (w : World) (t e : TypeId) (v : Value) (cells : Array Value) (sz : Nat) (z : Value) (hu : P.underlying t = some (.slice e)) (hi : (P.info? e).map (fun i => (i.zero, i.size)) = some (some z, sz)) (hs : ¬ 1 * sz > 2 ^ 24) (hp : ¬ 1 * sz = 0)
    (h : Instr.fill (fun i => some (i * sz, sz)) ((Array.range (1 * sz)).map (z.cells[· % z.cells.size]!)) [(0, v)] = some cells) :
    (Instr.buildSlice t 1 #[(0, v)]).run P w = .ok (.slice (some ⟨w.heap.size, 0, none⟩) 1 1) (w.alloc (.cells cells e)) := by
  obtain ⟨ie, hie, hzz⟩ := Option.map_eq_some_iff.1 hi
  simp only [Prod.mk.injEq] at hzz
  obtain ⟨hz, hsz⟩ := hzz
  subst hsz
  exact run_buildSlice w t e 1 #[(0, v)] cells ie z hu hie hz hs hp h
theorem lit1_kid (w : World) (s : ByteArray) (x : List UInt8) (hx : x.length = 33) : (Instr.buildSlice 71 1 #[(0, .agg (kdC (s, x)).toArray)]).run Tryd.prog w = .ok (.slice (some ⟨w.heap.size, 0, none⟩) 1 1) (w.alloc (.cells (kdC (s, x)).toArray 77)) := by
  obtain ⟨b0, b1, b2, b3, b4, b5, b6, b7, b8, b9, b10, b11, b12, b13, b14, b15, b16, b17, b18, b19, b20, b21, b22, b23, b24, b25, b26, b27, b28, b29, b30, b31, b32, rfl⟩ := list33 hx
  exact run_lit1 w 71 77 _ _ 34 (.agg (.string ByteArray.empty :: bv idNone).toArray) Tryd.underlying71 (by kernel_rfl) (by decide) (by decide) (by kernel_rfl)
theorem lit1_pair (w : World) (s t : ByteArray) : (Instr.buildSlice 22 1 #[(0, .agg (prC (s, t)).toArray)]).run Tryd.prog w = .ok (.slice (some ⟨w.heap.size, 0, none⟩) 1 1) (w.alloc (.cells (prC (s, t)).toArray 65)) :=
  run_lit1 w 22 65 _ _ 2 (.agg #[.string ByteArray.empty, .string ByteArray.empty]) Tryd.underlying22 (by kernel_rfl) (by decide) (by decide) (by kernel_rfl)
theorem lit1_id (w : World) (x : List UInt8) (hx : x.length = 33) : (Instr.buildSlice 37 1 #[(0, .agg (bv x).toArray)]).run Tryd.prog w = .ok (.slice (some ⟨w.heap.size, 0, none⟩) 1 1) (w.alloc (.cells (bv x).toArray 27)) := by
  obtain ⟨b0, b1, b2, b3, b4, b5, b6, b7, b8, b9, b10, b11, b12, b13, b14, b15, b16, b17, b18, b19, b20, b21, b22, b23, b24, b25, b26, b27, b28, b29, b30, b31, b32, rfl⟩ := list33 hx
  exact run_lit1 w 37 27 _ _ 33 (.agg (bv idNone).toArray) Tryd.underlying37 (by kernel_rfl) (by decide) (by decide) (by kernel_rfl)
theorem st_pairs (w : World) (p : Addr) (A : Option Addr) (n c : Nat) (old : Value) (h : w.cell? p = some old) (hf : w.frozen? p = false) : (Instr.storeAt 22 (.pointer (some p)) (.slice A n c)).run Tryd.prog w = .ok () (w.setCell p (.slice A n c)) := by go_simp
theorem st_kids (w : World) (p : Addr) (A : Option Addr) (n c : Nat) (old : Value) (h : w.cell? p = some old) (hf : w.frozen? p = false) : (Instr.storeAt 71 (.pointer (some p)) (.slice A n c)).run Tryd.prog w = .ok () (w.setCell p (.slice A n c)) := by go_simp
theorem st_ids (w : World) (p : Addr) (A : Option Addr) (n c : Nat) (old : Value) (h : w.cell? p = some old) (hf : w.frozen? p = false) : (Instr.storeAt 37 (.pointer (some p)) (.slice A n c)).run Tryd.prog w = .ok () (w.setCell p (.slice A n c)) := by go_simp
theorem prs_snoc (ps : List Pr) (p : Pr) : (ps.map prC).flatten ++ prC p = ((ps ++ [p]).map prC).flatten := by simp
theorem kds_snoc (ks : List Kd) (k : Kd) : (ks.map kdC).flatten ++ kdC k = ((ks ++ [k]).map kdC).flatten := by simp
theorem ids_snoc (xs : List (List UInt8)) (x : List UInt8) : (xs.map bv).flatten ++ bv x = ((xs ++ [x]).map bv).flatten := by simp
end Go.Proofs.YtcnhbodemabbdaaDoor
/- A map keyed by names (api.Id), with texts for elements: looked up and written, as a list of entries. -/
namespace Go.Proofs.YtcnhbodemabbdaaDoor
open Go.RowKit
set_option linter.unusedVariables false

theorem id_wide : (match Tryd.prog.underlying 27 with | some (.array _ _) | some (.struct _) => true | _ => false) = true := by kernel_rfl
/-- The entries: names and texts. -/
abbrev Ent1 := List UInt8 × ByteArray
def entsOf (L : List Ent1) (es : List MapEntry) : Prop := es.map (fun e => (e.key, e.val)) = L.map (fun p => (Value.agg (bv p.1).toArray, Value.string p.2))
def fIx (x : List UInt8) : List Ent1 → Nat → Option (Nat × Value)
  | [], _ => none
  | p :: L, i => if x == p.1 then some (i, .string p.2) else fIx x L (i + 1)
theorem run_findAsking (w : World) (x : List UInt8) (hx : x.length = 33) : ∀ (L : List Ent1) (es : List MapEntry) (i : Nat), entsOf L es → (∀ p ∈ L, p.1.length = 33) →
    (Instr.findAsking 27 (.agg (bv x).toArray) es i).run Tryd.prog w = .ok (fIx x L i) w
  | [], es, i, he, _ => by
    have : es = [] := by unfold entsOf at he; simpa using he
    subst this
    simp [Instr.findAsking, fIx]
  | p :: L, [], i, he, _ => by unfold entsOf at he; simp at he
  | p :: L, e :: es, i, he, hl => by
    unfold entsOf at he
    simp only [List.map_cons, List.cons.injEq, Prod.mk.injEq] at he
    obtain ⟨⟨hk, hv⟩, hr⟩ := he
    have hq := id_equal x p.1 hx (hl p (List.mem_cons_self ..)) w
    have ih := run_findAsking w x hx L es (i + 1) hr (fun q hq => hl q (List.mem_cons_of_mem _ hq))
    have hq' : (Op.equal 27 (.agg (bv x).toArray) e.key).run Tryd.prog w = .ok (x == p.1) w := by rw [hk]; exact hq
    unfold Instr.findAsking fIx
    rw [Sem.run_bind, hq', Result.andThen_ok]
    cases hb : (x == p.1) with
    | true => simp [hv]
    | false => simpa using ih
set_option maxRecDepth 50000 in
theorem run_findKey_id (w : World) (x : List UInt8) (hx : x.length = 33) (L : List Ent1) (es : List MapEntry) (he : entsOf L es) (hl : ∀ p ∈ L, p.1.length = 33) :
    (Instr.findKey 27 (.agg (bv x).toArray) es).run Tryd.prog w = .ok (fIx x L 0) w := by
  rw [run_findKey_eq w id_wide]
  exact run_findAsking w x hx L es 0 he hl
theorem keyLits_u8 (d : Nat) (b : UInt8) : Tryd.prog.keyLits (d + 1) 5 [.int .u8 b.toNat] = some [.int .u8 b.toNat] := by
  have hw : (Lit.int IntKind.u8 (b.toNat : Int)).wf = true := by
    have := b.toNat_lt
    have h1 : IntKind.u8.min = 0 := rfl
    have h2 : IntKind.u8.max = 255 := rfl
    simp [Lit.wf, h1, h2]
    omega
  unfold Program.keyLits
  rw [Tryd.underlying5]
  simp [hw]
theorem mapM_some {α β : Type} {f : α → Option β} : ∀ (l : List α), (∀ x ∈ l, ∃ y, f x = some y) → ∃ ys, l.mapM f = some ys
  | [], _ => ⟨[], by simp⟩
  | a :: l, h => by
    obtain ⟨y, hy⟩ := h a (List.mem_cons_self ..)
    obtain ⟨ys, hys⟩ := mapM_some l (fun x hx => h x (List.mem_cons_of_mem _ hx))
    exact ⟨y :: ys, by simp [List.mapM_cons, hy, hys]⟩
theorem cells_u8 : Tryd.prog.cellsOf 5 = 1 := by kernel_rfl
theorem cells_arr : Tryd.prog.cellsOf 25 = 32 := by kernel_rfl
theorem cells_id : Tryd.prog.cellsOf 27 = 33 := by kernel_rfl
theorem keyLits_arr (d : Nat) (bs : List UInt8) (h : bs.length = 32) : ∃ la, Tryd.prog.keyLits (d + 2) 25 (bv bs) = some la := by
  obtain ⟨ys, hys⟩ := mapM_some (f := fun i => Tryd.prog.keyLits (d + 1) 5 (((bv bs).drop (i * Tryd.prog.cellsOf 5)).take (Tryd.prog.cellsOf 5))) (List.range 32) (fun i hi => by
    rw [List.mem_range] at hi
    rw [cells_u8, Nat.mul_one]
    have e : ((bv bs).drop i).take 1 = [.int .u8 (bs[i]'(by omega)).toNat] := by
      have hl : i < (bv bs).length := by rw [bv_length, h]; exact hi
      rw [List.drop_eq_getElem_cons hl]
      simp [bv]
    rw [e]
    exact ⟨_, keyLits_u8 d _⟩)
  unfold Program.keyLits
  rw [Tryd.underlying25]
  simp only
  rw [if_pos (by rw [bv_length, h, cells_arr]), hys]
  exact ⟨_, rfl⟩
theorem keyLits_id (d : Nat) (x : List UInt8) (hx : x.length = 33) : ∃ la, Tryd.prog.keyLits (d + 3) 27 (bv x) = some la := by
  obtain ⟨k, l, rfl⟩ : ∃ k l, x = k :: l := by cases x with | nil => cases hx | cons k l => exact ⟨k, l, rfl⟩
  have hl : l.length = 32 := by simpa using hx
  obtain ⟨la, hla⟩ := keyLits_arr d l hl
  have h1 := keyLits_u8 (d + 1) k
  unfold Program.keyLits
  rw [id_under]
  have hf := id_fields
  generalize Tryd.prog.fieldsOf 27 = F at hf ⊢
  obtain ⟨F⟩ := F
  simp only at hf
  have hlen := congrArg List.length hf
  rw [List.length_map] at hlen
  rcases F with _ | ⟨f0, _ | ⟨f1, _ | ⟨f2, F⟩⟩⟩
  · cases hlen
  · cases hlen
  · simp only [List.map_cons, List.map_nil, List.cons.injEq, Prod.mk.injEq, and_true] at hf
    obtain ⟨⟨n0, t0, o0⟩, ⟨n1, t1, o1⟩⟩ := hf
    simp only
    rw [if_pos ⟨by rw [bv_length, hx, cells_id], by simp [n0, n1]⟩]
    have e0 : ((bv (k :: l)).drop 0).take 1 = [.int .u8 k.toNat] := rfl
    have e1 : ((bv (k :: l)).drop 1).take 32 = bv l := by
      show ((bv l)).take 32 = bv l
      exact List.take_of_length_le (by rw [bv_length, hl]; exact Nat.le_refl _)
    simp only [List.mapM_cons, List.mapM_nil, t0, o0, t1, o1, cells_u8, cells_arr, e0, e1, h1, hla]
    exact ⟨_, rfl⟩
  · simp at hlen
theorem run_checkKey_id (w : World) (em : Bool) (x : List UInt8) (hx : x.length = 33) : (Instr.checkKey em 10000 27 (.agg (bv x).toArray)).run Tryd.prog w = .ok () w := by
  obtain ⟨la, hla⟩ := keyLits_id 0 x hx
  refine run_checkKey_deep em 9997 3 27 (by kernel_rfl) w 3 _ la ?_ ?_
  · unfold Value.formed
    rw [id_under]
    simp only
    rw [List.size_toArray, bv_length, hx, cells_id]
    rfl
  · show Tryd.prog.keyLits 3 27 (bv x).toArray.toList = some la
    rw [List.toList_toArray]
    exact hla
/-- Block b is a map of these entries. -/
def MapB (w : World) (b : Nat) (L : List Ent1) : Prop := ∃ es clock, w.heap[b]? = some (.map es clock) ∧ entsOf L es.toList
theorem MapB.lt {w : World} {b : Nat} {L : List Ent1} (h : MapB w b L) : b < w.heap.size := by
  obtain ⟨es, c, h1, _⟩ := h
  exact (Array.getElem?_eq_some_iff.1 h1).1
theorem MapB.ext {w w' : World} {b : Nat} {L : List Ent1} (h : MapB w b L) (k : Ext w w') : MapB w' b L := by
  have hl := h.lt
  obtain ⟨es, c, h1, h2⟩ := h
  exact ⟨es, c, (k.block b hl).trans h1, h2⟩
theorem MapB.grown {w w' : World} {b : Nat} {L : List Ent1} (h : MapB w b L) {row : Option Nat} (hg : w.grownBy w' row) (hne : some b ≠ row) : MapB w' b L := by
  have hl := h.lt
  obtain ⟨es, c, h1, h2⟩ := h
  exact ⟨es, c, (hg.block b hl hne).trans h1, h2⟩
theorem MapB.new (w : World) : MapB (w.alloc (.map #[] 0)) w.heap.size [] := ⟨#[], 0, heap_alloc_new w _, rfl⟩
/-- What stands at a name. -/
def at1 (x : List UInt8) (L : List Ent1) : Option ByteArray := (L.find? (fun p => x == p.1)).map (·.2)
def put1 (x : List UInt8) (s : ByteArray) : List Ent1 → List Ent1
  | [] => [(x, s)]
  | p :: L => if x == p.1 then (x, s) :: L else p :: put1 x s L
theorem fIx_at (x : List UInt8) : ∀ (L : List Ent1) (i : Nat), (fIx x L i).map (·.2) = (at1 x L).map Value.string
  | [], _ => rfl
  | p :: L, i => by
    unfold fIx at1
    cases hb : (x == p.1) with
    | true => simp [hb]
    | false =>
      simp only [List.find?_cons, hb]
      exact fIx_at x L (i + 1)
theorem at1_put (x y : List UInt8) (s : ByteArray) : ∀ L : List Ent1, at1 y (put1 x s L) = if y == x then some s else at1 y L
  | [] => by
    unfold put1 at1
    simp only [List.find?_cons, List.find?_nil]
    cases hb : (y == x) <;> simp
  | p :: L => by
    have ih := at1_put x y s L
    unfold put1
    cases hb : (x == p.1) with
    | true =>
      have e := beq_iff_eq.1 hb
      subst e
      unfold at1
      simp only [if_true, List.find?_cons]
      cases h2 : (y == p.1) <;> simp
    | false =>
      unfold at1 at ih ⊢
      simp only [Bool.false_eq_true, if_false, List.find?_cons]
      cases h2 : (y == p.1) with
      | true =>
        have e := beq_iff_eq.1 h2
        subst e
        have : (p.1 == x) = false := by rw [beq_eq_false_iff_ne] at hb ⊢; exact fun e => hb e.symm
        rw [this]
        rfl
      | false => exact ih
theorem fIx_some (x : List UInt8) (s : ByteArray) : ∀ (L : List Ent1) (k i : Nat) (v : Value), fIx x L k = some (i, v) → ∃ j p, i = k + j ∧ L[j]? = some p ∧ p.1 = x ∧ put1 x s L = L.set j (x, s)
  | [], k, i, v, h => by cases h
  | p :: L, k, i, v, h => by
    unfold fIx at h
    cases hb : (x == p.1) with
    | true =>
      rw [hb] at h
      simp only [if_true, Option.some.injEq, Prod.mk.injEq] at h
      refine ⟨0, p, by omega, rfl, (beq_iff_eq.1 hb).symm, ?_⟩
      unfold put1
      rw [hb]
      rfl
    | false =>
      rw [hb] at h
      simp only [Bool.false_eq_true, if_false] at h
      obtain ⟨j, q, e1, e2, e3, e4⟩ := fIx_some x s L (k + 1) i v h
      refine ⟨j + 1, q, by omega, e2, e3, ?_⟩
      unfold put1
      rw [hb]
      simp only [Bool.false_eq_true, if_false]
      rw [e4]
      rfl
theorem fIx_none (x : List UInt8) (s : ByteArray) : ∀ (L : List Ent1) (k : Nat), fIx x L k = none → put1 x s L = L ++ [(x, s)]
  | [], k, _ => rfl
  | p :: L, k, h => by
    unfold fIx at h
    cases hb : (x == p.1) with
    | true => rw [hb] at h; cases h
    | false =>
      rw [hb] at h
      simp only [Bool.false_eq_true, if_false] at h
      unfold put1
      rw [hb]
      simp only [Bool.false_eq_true, if_false]
      rw [fIx_none x s L (k + 1) h]
      rfl
theorem map_modify_set {α β : Type} {f : α → α} {g : α → β} {c : β} (hf : ∀ e, g (f e) = c) : ∀ (l : List α) (j : Nat), (l.modify j f).map g = (l.map g).set j c
  | [], j => by simp
  | a :: l, 0 => by simp [hf]
  | a :: l, j + 1 => by
    have := map_modify_set hf l j
    simpa using this
theorem sameBits_bv (n : Nat) : ∀ x : List UInt8, ((bv x).zip (bv x)).all (fun p => Instr.sameBits n p.1 p.2) = true := by
  intro x
  rw [List.all_eq_true]
  intro p hp
  obtain ⟨i, hi, rfl⟩ := List.getElem_of_mem hp
  rw [List.getElem_zip]
  simp only [bv, List.getElem_map]
  unfold Instr.sameBits
  simp
theorem sameBits_id (n : Nat) (x : List UInt8) : Instr.sameBits (n + 1) (.agg (bv x).toArray) (.agg (bv x).toArray) = true := by
  unfold Instr.sameBits
  rw [Bool.and_eq_true]
  refine ⟨by simp, ?_⟩
  have := sameBits_bv n x
  simpa using this
theorem put1_ids (x : List UInt8) (s : ByteArray) (hx : x.length = 33) : ∀ L : List Ent1, (∀ p ∈ L, p.1.length = 33) → ∀ p ∈ put1 x s L, p.1.length = 33
  | [], _, p, hp => by
    unfold put1 at hp
    rw [List.mem_singleton] at hp
    subst hp
    exact hx
  | q :: L, h, p, hp => by
    unfold put1 at hp
    split at hp
    · rcases List.mem_cons.1 hp with rfl | hp
      · exact hx
      · exact h p (List.mem_cons_of_mem _ hp)
    · rcases List.mem_cons.1 hp with rfl | hp
      · exact h _ (List.mem_cons_self ..)
      · exact put1_ids x s hx L (fun p hp => h p (List.mem_cons_of_mem _ hp)) p hp
theorem run_lookup_id (T : TypeId) (hT : Tryd.prog.underlying T = some (.map 27 9)) {w : World} {b : Nat} {L : List Ent1} (h : MapB w b L) (hl : ∀ p ∈ L, p.1.length = 33) (x : List UInt8) (hx : x.length = 33) :
    (Instr.lookup T (.map (some b)) (.agg (bv x).toArray) true).run Tryd.prog w = .ok (.tuple #[.string ((at1 x L).getD ByteArray.empty), .bool (at1 x L).isSome]) w := by
  obtain ⟨es, c, h1, h2⟩ := h
  have hz : (zeroValue 9).run Tryd.prog w = .ok (.string ByteArray.empty) w := by kernel_rfl
  have hf := run_findKey_id w x hx L es.toList h2 hl
  have hat := fIx_at x L 0
  simp only [Instr.lookup, Sem.run_bind, run_underlying hT, Result.andThen_ok, Go.MapKept.run_getObj_map h1, Sem.run_pure, run_checkKey_id w _ x hx, hf]
  cases hi : fIx x L 0 with
  | none =>
    rw [hi] at hat
    have : at1 x L = none := by cases hq : at1 x L with | none => rfl | some s => rw [hq] at hat; cases hat
    rw [this]
    simp [hz]
  | some r =>
    obtain ⟨i, v⟩ := r
    rw [hi] at hat
    cases hq : at1 x L with
    | none => rw [hq] at hat; cases hat
    | some s =>
      rw [hq] at hat
      simp only [Option.map_some, Option.some.injEq] at hat
      subst hat
      simp
theorem run_mapUpdate_id (T : TypeId) (hT : Tryd.prog.underlying T = some (.map 27 9)) {w : World} {b : Nat} {L : List Ent1} (h : MapB w b L) (hl : ∀ p ∈ L, p.1.length = 33) (x : List UInt8) (hx : x.length = 33) (s : ByteArray) :
    ∃ w', (Instr.mapUpdate T (.map (some b)) (.agg (bv x).toArray) (.string s)).run Tryd.prog w = .ok () w' ∧ MapB w' b (put1 x s L) ∧ w.grownBy w' (some b) := by
  obtain ⟨es, c, h1, h2⟩ := h
  have hb : b < w.heap.size := (Array.getElem?_eq_some_iff.1 h1).1
  have hf := run_findKey_id w x hx L es.toList h2 hl
  have hg : ∀ o, w.grownBy { w with heap := w.heap.setIfInBounds b o } (some b) := fun o => ⟨rfl, rfl, rfl, by simp, fun k _ hk => by
    have : k ≠ b := fun e => hk (by rw [e])
    simp [Array.getElem?_setIfInBounds_ne (Ne.symm this)]⟩
  have hset : ∀ o, ({ w with heap := w.heap.setIfInBounds b o } : World).heap[b]? = some o := fun o => by simp [hb]
  cases hi : fIx x L 0 with
  | none =>
    refine ⟨{ w with heap := w.heap.setIfInBounds b (.map (es.push { key := .agg (bv x).toArray, val := .string s, born := c }) (c + 1)) }, ?_, ?_, hg _⟩
    · simp only [Instr.mapUpdate, Sem.run_bind, run_underlying hT, Result.andThen_ok, Go.MapKept.run_getObj_map h1, run_checkKey_id w _ x hx, hf, hi, Go.MapKept.run_setObj_map _ h1]
    · refine ⟨_, _, hset _, ?_⟩
      rw [fIx_none x s L 0 hi]
      unfold entsOf at h2 ⊢
      rw [Array.toList_push, List.map_append, List.map_append, h2]
      rfl
  | some r =>
    obtain ⟨i, v⟩ := r
    obtain ⟨j, p, e1, e2, e3, e4⟩ := fIx_some x s L 0 i v hi
    rw [Nat.zero_add] at e1
    subst e1
    have hk : ∃ q, es[i]? = some q ∧ q.key = .agg (bv x).toArray := by
      unfold entsOf at h2
      have := congrArg (fun l => l[i]?) h2
      simp only [List.getElem?_map, e2, Option.map_some] at this
      cases hq : es.toList[i]? with
      | none => rw [hq] at this; cases this
      | some q =>
        rw [hq] at this
        simp only [Option.map_some, Option.some.injEq, Prod.mk.injEq] at this
        refine ⟨q, by rw [← Array.getElem?_toList]; exact hq, ?_⟩
        rw [this.1, e3]
    obtain ⟨q, hq, hqk⟩ := hk
    have hst : (Instr.keyThatStays (((es[i]?).map (·.key)).getD (.agg (bv x).toArray)) (.agg (bv x).toArray)).run Tryd.prog w = .ok (.agg (bv x).toArray) w := by
      rw [hq, Option.map_some, Option.getD_some, hqk]
      unfold Instr.keyThatStays
      rw [sameBits_id 9999 x]
      simp
    refine ⟨{ w with heap := w.heap.setIfInBounds b (.map (es.modify i fun e => { e with key := .agg (bv x).toArray, val := .string s }) c) }, ?_, ?_, hg _⟩
    · simp only [Instr.mapUpdate, Sem.run_bind, run_underlying hT, Result.andThen_ok, Go.MapKept.run_getObj_map h1, run_checkKey_id w _ x hx, hf, hi, hst, Go.MapKept.run_setObj_map _ h1]
    · refine ⟨_, _, hset _, ?_⟩
      rw [e4]
      unfold entsOf at h2 ⊢
      rw [Array.toList_modify, map_modify_set (f := fun e : MapEntry => { e with key := .agg (bv x).toArray, val := .string s }) (g := fun e : MapEntry => (e.key, e.val)) (c := (Value.agg (bv x).toArray, Value.string s)) (fun e => rfl), h2, List.map_set]
end Go.Proofs.YtcnhbodemabbdaaDoor
