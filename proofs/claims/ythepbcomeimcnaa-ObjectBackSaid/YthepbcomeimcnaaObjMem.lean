/- Trees and commits in memory. -/
import Derived.Test.YthepbcomeimcnaaObjPure
import Derived.Test.YthepbcomeimcnaaStructs
import Derived.Test.YthepbcomeimcnaaIdentLaw
namespace Go.Proofs.Ythepbcomeimcnaa
open Go.RowKit
set_option linter.unusedVariables false

def prC (p : Pr) : List Value := [.string p.1, .string p.2]
def kdC (k : Kd) : List Value := .string k.1 :: bv k.2
/-- A tree's parts in memory. -/
structure TrAt (w : World) (t : Tr) (pa ka : Option Addr) (P K pc kc : Nat) : Prop where
  hp : t.pairs.length = P
  hk : t.kids.length = K
  lp : P ≤ pc
  lk : K ≤ kc
  cp : Row w pa 2 (t.pairs.map prC)
  ck : Row w ka 34 (t.kids.map kdC)
  bp : P ≤ 140737488351232
  bk : K ≤ 140737488351232
  sp : ∀ p ∈ t.pairs, p.1.size ≤ 140737488351232 ∧ p.2.size ≤ 140737488351232
  sk : ∀ k ∈ t.kids, k.1.size ≤ 140737488351232 ∧ k.2.length = 33
theorem TrAt.ext {w w' : World} {t : Tr} {pa ka : Option Addr} {P K pc kc : Nat} (h : TrAt w t pa ka P K pc kc) (k : Ext w w') : TrAt w' t pa ka P K pc kc :=
  ⟨h.hp, h.hk, h.lp, h.lk, h.cp.ext k, h.ck.ext k, h.bp, h.bk, h.sp, h.sk⟩
abbrev tra (pa : Option Addr) (P pc : Nat) (ka : Option Addr) (K kc : Nat) : Value := .agg #[.slice pa P pc, .slice ka K kc]
/-- A commit's parts in memory. -/
structure CmAt (w : World) (c : Cm) (qa : Option Addr) (Q qc : Nat) : Prop where
  hr : c.root.length = 33
  hq : c.parents.length = Q
  lq : Q ≤ qc
  cq : Row w qa 33 (c.parents.map bv)
  bq : Q ≤ 140737488351232
  sq : ∀ p ∈ c.parents, p.length = 33
  sn : c.note.size ≤ 140737488351232
  n0 : -9223372036854775808 ≤ c.num
  n1 : c.num ≤ 9223372036854775807
theorem CmAt.ext {w w' : World} {c : Cm} {qa : Option Addr} {Q qc : Nat} (h : CmAt w c qa Q qc) (k : Ext w w') : CmAt w' c qa Q qc :=
  ⟨h.hr, h.hq, h.lq, h.cq.ext k, h.bq, h.sq, h.sn, h.n0, h.n1⟩
def cmC (c : Cm) (qa : Option Addr) (Q qc : Nat) : List Value := bv c.root ++ [.slice qa Q qc, .string c.note, .int .i64 c.num]
abbrev cma (c : Cm) (qa : Option Addr) (Q qc : Nat) : Value := .agg (cmC c qa Q qc).toArray
theorem prC_len (p : Pr) : (prC p).length = 2 := rfl
theorem kdC_len {k : Kd} (h : k.2.length = 33) : (kdC k).length = 34 := by simp [kdC, bv, h]
theorem pr_row {w : World} {a : Option Addr} {ps : List Pr} (h : Row w a 2 (ps.map prC)) {i : Nat} (hi : i < ps.length) :
    ∃ x, a = some x ∧ w.cell? (x.add (i * 2)) = some (.string ps[i].1) ∧ w.cell? ((x.add (i * 2)).add 1) = some (.string ps[i].2) := by
  obtain ⟨x, hx, hc⟩ := h.get (i := i) (by simpa using hi)
  rw [List.getElem_map] at hc
  exact ⟨x, hx, hc 0 _ rfl, hc 1 _ rfl⟩
theorem pr_info : (Try.prog.info? 43).map (·.size) = some 2 := by kernel_rfl
theorem kd_info : (Try.prog.info? 59).map (·.size) = some 34 := by kernel_rfl
theorem id_info : (Try.prog.info? 28).map (·.size) = some 33 := by kernel_rfl
theorem cm_info : (Try.prog.info? 31).map (·.size) = some 36 := by kernel_rfl
theorem tr_info : (Try.prog.info? 25).map (·.size) = some 2 := by kernel_rfl
theorem prC_one (p : Pr) : ∀ v ∈ prC p, v.oneCell' = true := by
  intro v hv
  simp only [prC, List.mem_cons, List.not_mem_nil, or_false] at hv
  rcases hv with rfl | rfl <;> rfl
theorem kdC_one (k : Kd) : ∀ v ∈ kdC k, v.oneCell' = true := by
  intro v hv
  rcases List.mem_cons.1 hv with rfl | hv
  · rfl
  · exact bv_cells _ v hv
/-- The two cells of a boxed tree. -/
theorem tree_cells {w : World} {g : Nat} {pa ka : Option Addr} {P K pc kc : Nat} (h : Blk w g 25 #[.slice pa P pc, .slice ka K kc]) :
    w.cell? ⟨g, 0, none⟩ = some (.slice pa P pc) ∧ w.cell? ⟨g, 1, none⟩ = some (.slice ka K kc) := ⟨h.cell 0, h.cell 1⟩
theorem pair_cells {w : World} {g : Nat} {p : Pr} (h : Blk w g 43 (prC p).toArray) : w.cell? ⟨g, 0, none⟩ = some (.string p.1) ∧ w.cell? ⟨g, 1, none⟩ = some (.string p.2) := ⟨h.cell 0, h.cell 1⟩

section
variable (w : World) (p : Addr)
theorem f_tree0 : (Instr.fieldAt 25 (.pointer (some p)) 0).run Try.prog w = .ok (.pointer (some p)) w := by go_simp
theorem f_tree1 : (Instr.fieldAt 25 (.pointer (some p)) 1).run Try.prog w = .ok (.pointer (some (p.add 1))) w := by go_simp
theorem f_kid0 : (Instr.fieldAt 59 (.pointer (some p)) 0).run Try.prog w = .ok (.pointer (some p)) w := by go_simp
theorem f_kid1 : (Instr.fieldAt 59 (.pointer (some p)) 1).run Try.prog w = .ok (.pointer (some (p.add 1))) w := by go_simp
theorem f_id0 : (Instr.fieldAt 28 (.pointer (some p)) 0).run Try.prog w = .ok (.pointer (some p)) w := by go_simp
theorem f_cm0 : (Instr.fieldAt 31 (.pointer (some p)) 0).run Try.prog w = .ok (.pointer (some p)) w := by go_simp
theorem f_cm1 : (Instr.fieldAt 31 (.pointer (some p)) 1).run Try.prog w = .ok (.pointer (some (p.add 33))) w := by go_simp
theorem f_cm2 : (Instr.fieldAt 31 (.pointer (some p)) 2).run Try.prog w = .ok (.pointer (some (p.add 34))) w := by go_simp
theorem f_cm3 : (Instr.fieldAt 31 (.pointer (some p)) 3).run Try.prog w = .ok (.pointer (some (p.add 35))) w := by go_simp
variable {w} {p}
theorem ld_str {s : ByteArray} (h : w.cell? p = some (.string s)) : (Instr.loadAt 9 (.pointer (some p))).run Try.prog w = .ok (.string s) w := by go_simp
theorem ld_u8 {c : Int} (h : w.cell? p = some (.int .u8 c)) : (Instr.loadAt 5 (.pointer (some p))).run Try.prog w = .ok (.int .u8 c) w := by go_simp
theorem ld_int {c : Int} (h : w.cell? p = some (.int .i64 c)) : (Instr.loadAt 3 (.pointer (some p))).run Try.prog w = .ok (.int .i64 c) w := by go_simp
theorem ld_kids {a : Option Addr} {n c : Nat} (h : w.cell? p = some (.slice a n c)) : (Instr.loadAt 23 (.pointer (some p))).run Try.prog w = .ok (.slice a n c) w := by go_simp
theorem ld_pairs {a : Option Addr} {n c : Nat} (h : w.cell? p = some (.slice a n c)) : (Instr.loadAt 22 (.pointer (some p))).run Try.prog w = .ok (.slice a n c) w := by go_simp
theorem ld_ids {a : Option Addr} {n c : Nat} (h : w.cell? p = some (.slice a n c)) : (Instr.loadAt 29 (.pointer (some p))).run Try.prog w = .ok (.slice a n c) w := by go_simp
theorem ld_id {b : List UInt8} (hb : b.length = 33) (h : Cells w (some p) (bv b)) : (Instr.loadAt 28 (.pointer (some p))).run Try.prog w = .ok (.agg (bv b).toArray) w :=
  run_loadAt_row w p 28 (bv b) _ (fun j v hv => by obtain ⟨x, hx, hc⟩ := h j v hv; cases hx; exact hc) Try.underlying28 rfl (by rw [id_info, bv_len, hb])
theorem ix_kid {a : Addr} {n c i : Nat} {z : Int} (hz : z = (i : Int)) (h : i < n) : (Instr.indexAt 23 (.slice (some a) n c) (.int .i64 z)).run Try.prog w = .ok (.pointer (some (a.add (i * 34)))) w := by
  subst hz
  have h1 : (0 : Int) ≤ (i : Int) := by omega
  have h2 : (i : Int) < (n : Int) := by omega
  go_simp
theorem ix_id {a : Addr} {n c i : Nat} {z : Int} (hz : z = (i : Int)) (h : i < n) : (Instr.indexAt 29 (.slice (some a) n c) (.int .i64 z)).run Try.prog w = .ok (.pointer (some (a.add (i * 33)))) w := by
  subst hz
  have h1 : (0 : Int) ≤ (i : Int) := by omega
  have h2 : (i : Int) < (n : Int) := by omega
  go_simp
end
theorem kd_row {w : World} {a : Option Addr} {ks : List Kd} (h : Row w a 34 (ks.map kdC)) {i : Nat} (hi : i < ks.length) :
    ∃ x, a = some x ∧ w.cell? (x.add (i * 34)) = some (.string ks[i].1) ∧ Cells w (some ((x.add (i * 34)).add 1)) (bv ks[i].2) ∧ ∀ j v, (kdC ks[i])[j]? = some v → w.cell? ((x.add (i * 34)).add j) = some v := by
  obtain ⟨x, hx, hc⟩ := h.get (i := i) (by simpa using hi)
  rw [List.getElem_map] at hc
  exact ⟨x, hx, hc 0 _ rfl, fun j v hj => ⟨_, rfl, by rw [add_add, Nat.add_comm 1 j]; exact hc (j + 1) v hj⟩, hc⟩
theorem Cells.head {w : World} {p : Addr} {b : List UInt8} (h : Cells w (some p) (bv b)) (hb : 0 < b.length) : w.cell? p = some (.int .u8 (idKind b).toNat) := by
  obtain ⟨x, hx, hc⟩ := h.byte hb
  cases hx
  have e : idKind b = b[0] := by unfold idKind; rw [List.getD_eq_getElem?_getD, List.getElem?_eq_getElem hb]; rfl
  rw [e]
  exact hc
theorem kid_cells {w : World} {g : Nat} {k : Kd} (h : Blk w g 59 (kdC k).toArray) : w.cell? ⟨g, 0, none⟩ = some (.string k.1) ∧ Cells w (some ⟨g, 1, none⟩) (bv k.2) := by
  refine ⟨h.cell 0, fun j v hv => ⟨_, rfl, ?_⟩⟩
  have := h.cell (1 + j)
  have e : (⟨g, 1, none⟩ : Addr).add j = ⟨g, 1 + j, none⟩ := by
    unfold Addr.add
    by_cases hj : j = 0
    · subst hj; rfl
    · rw [if_neg hj]
  rw [e, this, ← Array.getElem?_toList, List.toList_toArray, Nat.add_comm 1 j]
  exact hv
end Go.Proofs.Ythepbcomeimcnaa
