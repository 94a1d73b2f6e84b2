/- Trees and commits in memory. -/
import Derived.Test.YthepbcomeimcnaaObjPure
import Derived.Test.YthepbcomeimcnaaStructs
import Derived.Test.YthepbcomeimcnaaIdentLaw
namespace Go.Proofs.Ythepbcomeimcnaa
open Go.RowKit
set_option linter.unusedVariables false

def prC (p : Pr) : List Value := [.string p.1, .string p.2]
def kdC (k : Kd) : List Value := .string k.1 :: bv k.2
/-- A tree's parts in memory. -/
structure TrAt (w : World) (t : Tr) (pa ka : Option Addr) (P K pc kc : Nat) : Prop where
  hp : t.pairs.length = P
  hk : t.kids.length = K
  lp : P ≤ pc
  lk : K ≤ kc
  cp : Row w pa 2 (t.pairs.map prC)
  ck : Row w ka 34 (t.kids.map kdC)
  bp : P ≤ 140737488351232
  bk : K ≤ 140737488351232
  sp : ∀ p ∈ t.pairs, p.1.size ≤ 140737488351232 ∧ p.2.size ≤ 140737488351232
  sk : ∀ k ∈ t.kids, k.1.size ≤ 140737488351232 ∧ k.2.length = 33
theorem TrAt.ext {w w' : World} {t : Tr} {pa ka : Option Addr} {P K pc kc : Nat} (h : TrAt w t pa ka P K pc kc) (k : Ext w w') : TrAt w' t pa ka P K pc kc :=
  ⟨h.hp, h.hk, h.lp, h.lk, h.cp.ext k, h.ck.ext k, h.bp, h.bk, h.sp, h.sk⟩
abbrev tra (pa : Option Addr) (P pc : Nat) (ka : Option Addr) (K kc : Nat) : Value := .agg #[.slice pa P pc, .slice ka K kc]
/-- A commit's parts in memory. -/
structure CmAt (w : World) (c : Cm) (qa : Option Addr) (Q qc : Nat) : Prop where
  hr : c.root.length = 33
  hq : c.parents.length = Q
  lq : Q ≤ qc
  cq : Row w qa 33 (c.parents.map bv)
  bq : Q ≤ 140737488351232
  sq : ∀ p ∈ c.parents, p.length = 33
  sn : c.note.size ≤ 140737488351232
  n0 : -9223372036854775808 ≤ c.num
  n1 : c.num ≤ 9223372036854775807
theorem CmAt.ext {w w' : World} {c : Cm} {qa : Option Addr} {Q qc : Nat} (h : CmAt w c qa Q qc) (k : Ext w w') : CmAt w' c qa Q qc :=
  ⟨h.hr, h.hq, h.lq, h.cq.ext k, h.bq, h.sq, h.sn, h.n0, h.n1⟩
def cmC (c : Cm) (qa : Option Addr) (Q qc : Nat) : List Value := bv c.root ++ [.slice qa Q qc, .string c.note, .int .i64 c.num]
abbrev cma (c : Cm) (qa : Option Addr) (Q qc : Nat) : Value := .agg (cmC c qa Q qc).toArray
theorem prC_len (p : Pr) : (prC p).length = 2 := rfl
theorem kdC_len {k : Kd} (h : k.2.length = 33) : (kdC k).length = 34 := by simp [kdC, bv, h]
theorem pr_row {w : World} {a : Option Addr} {ps : List Pr} (h : Row w a 2 (ps.map prC)) {i : Nat} (hi : i < ps.length) :
    ∃ x, a = some x ∧ w.cell? (x.add (i * 2)) = some (.string ps[i].1) ∧ w.cell? ((x.add (i * 2)).add 1) = some (.string ps[i].2) := by
  obtain ⟨x, hx, hc⟩ := h.get (i := i) (by simpa using hi)
  rw [List.getElem_map] at hc
  exact ⟨x, hx, hc 0 _ rfl, hc 1 _ rfl⟩
theorem pr_info : (Try.prog.info? 43).map (·.size) = some 2 := by kernel_rfl
theorem kd_info : (Try.prog.info? 59).map (·.size) = some 34 := by kernel_rfl
theorem id_info : (Try.prog.info? 28).map (·.size) = some 33 := by kernel_rfl
theorem cm_info : (Try.prog.info? 31).map (·.size) = some 36 := by kernel_rfl
theorem tr_info : (Try.prog.info? 25).map (·.size) = some 2 := by kernel_rfl
theorem prC_one (p : Pr) : ∀ v ∈ prC p, v.oneCell' = true := by
  intro v hv
  simp only [prC, List.mem_cons, List.not_mem_nil, or_false] at hv
  rcases hv with rfl | rfl <;> rfl
theorem kdC_one (k : Kd) : ∀ v ∈ kdC k, v.oneCell' = true := by
  intro v hv
  rcases List.mem_cons.1 hv with rfl | hv
  · rfl
  · exact bv_cells _ v hv
/-- The two cells of a boxed tree. -/
theorem tree_cells {w : World} {g : Nat} {pa ka : Option Addr} {P K pc kc : Nat} (h : Blk w g 25 #[.slice pa P pc, .slice ka K kc]) :
    w.cell? ⟨g, 0, none⟩ = some (.slice pa P pc) ∧ w.cell? ⟨g, 1, none⟩ = some (.slice ka K kc) := ⟨h.cell 0, h.cell 1⟩
theorem pair_cells {w : World} {g : Nat} {p : Pr} (h : Blk w g 43 (prC p).toArray) : w.cell? ⟨g, 0, none⟩ = some (.string p.1) ∧ w.cell? ⟨g, 1, none⟩ = some (.string p.2) := ⟨h.cell 0, h.cell 1⟩
end Go.Proofs.Ythepbcomeimcnaa
