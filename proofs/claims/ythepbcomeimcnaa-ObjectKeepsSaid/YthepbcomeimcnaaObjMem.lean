/- Layer 15: single reads of trees, kids, names, as equations. -/
import Derived.Test.YthepbcomeimcnaaObjAt
namespace Go.Proofs.Ythepbcomeimcnaa
open Go.RowKit
set_option linter.unusedVariables false

section
variable (w : World) (p : Addr)
theorem f_tree0 : (Instr.fieldAt 25 (.pointer (some p)) 0).run Try.prog w = .ok (.pointer (some p)) w := by go_simp
theorem f_tree1 : (Instr.fieldAt 25 (.pointer (some p)) 1).run Try.prog w = .ok (.pointer (some (p.add 1))) w := by go_simp
theorem f_kid0 : (Instr.fieldAt 59 (.pointer (some p)) 0).run Try.prog w = .ok (.pointer (some p)) w := by go_simp
theorem f_kid1 : (Instr.fieldAt 59 (.pointer (some p)) 1).run Try.prog w = .ok (.pointer (some (p.add 1))) w := by go_simp
theorem f_id0 : (Instr.fieldAt 28 (.pointer (some p)) 0).run Try.prog w = .ok (.pointer (some p)) w := by go_simp
theorem f_cm0 : (Instr.fieldAt 31 (.pointer (some p)) 0).run Try.prog w = .ok (.pointer (some p)) w := by go_simp
theorem f_cm1 : (Instr.fieldAt 31 (.pointer (some p)) 1).run Try.prog w = .ok (.pointer (some (p.add 33))) w := by go_simp
theorem f_cm2 : (Instr.fieldAt 31 (.pointer (some p)) 2).run Try.prog w = .ok (.pointer (some (p.add 34))) w := by go_simp
theorem f_cm3 : (Instr.fieldAt 31 (.pointer (some p)) 3).run Try.prog w = .ok (.pointer (some (p.add 35))) w := by go_simp
variable {w} {p}
theorem ld_str {s : ByteArray} (h : w.cell? p = some (.string s)) : (Instr.loadAt 9 (.pointer (some p))).run Try.prog w = .ok (.string s) w := by go_simp
theorem ld_u8 {c : Int} (h : w.cell? p = some (.int .u8 c)) : (Instr.loadAt 5 (.pointer (some p))).run Try.prog w = .ok (.int .u8 c) w := by go_simp
theorem ld_int {c : Int} (h : w.cell? p = some (.int .i64 c)) : (Instr.loadAt 3 (.pointer (some p))).run Try.prog w = .ok (.int .i64 c) w := by go_simp
theorem ld_kids {a : Option Addr} {n c : Nat} (h : w.cell? p = some (.slice a n c)) : (Instr.loadAt 23 (.pointer (some p))).run Try.prog w = .ok (.slice a n c) w := by go_simp
theorem ld_pairs {a : Option Addr} {n c : Nat} (h : w.cell? p = some (.slice a n c)) : (Instr.loadAt 22 (.pointer (some p))).run Try.prog w = .ok (.slice a n c) w := by go_simp
theorem ld_ids {a : Option Addr} {n c : Nat} (h : w.cell? p = some (.slice a n c)) : (Instr.loadAt 29 (.pointer (some p))).run Try.prog w = .ok (.slice a n c) w := by go_simp
theorem ld_id {b : List UInt8} (hb : b.length = 33) (h : Cells w (some p) (bv b)) : (Instr.loadAt 28 (.pointer (some p))).run Try.prog w = .ok (.agg (bv b).toArray) w :=
  run_loadAt_row w p 28 (bv b) _ (fun j v hv => by obtain ⟨x, hx, hc⟩ := h j v hv; cases hx; exact hc) Try.underlying28 rfl (by rw [id_info, bv_len, hb])
theorem ix_kid {a : Addr} {n c i : Nat} {z : Int} (hz : z = (i : Int)) (h : i < n) : (Instr.indexAt 23 (.slice (some a) n c) (.int .i64 z)).run Try.prog w = .ok (.pointer (some (a.add (i * 34)))) w := by
  subst hz
  have h1 : (0 : Int) ≤ (i : Int) := by omega
  have h2 : (i : Int) < (n : Int) := by omega
  go_simp
theorem ix_id {a : Addr} {n c i : Nat} {z : Int} (hz : z = (i : Int)) (h : i < n) : (Instr.indexAt 29 (.slice (some a) n c) (.int .i64 z)).run Try.prog w = .ok (.pointer (some (a.add (i * 33)))) w := by
  subst hz
  have h1 : (0 : Int) ≤ (i : Int) := by omega
  have h2 : (i : Int) < (n : Int) := by omega
  go_simp
end
theorem kd_row {w : World} {a : Option Addr} {ks : List Kd} (h : Row w a 34 (ks.map kdC)) {i : Nat} (hi : i < ks.length) :
    ∃ x, a = some x ∧ w.cell? (x.add (i * 34)) = some (.string ks[i].1) ∧ Cells w (some ((x.add (i * 34)).add 1)) (bv ks[i].2) ∧ ∀ j v, (kdC ks[i])[j]? = some v → w.cell? ((x.add (i * 34)).add j) = some v := by
  obtain ⟨x, hx, hc⟩ := h.get (i := i) (by simpa using hi)
  rw [List.getElem_map] at hc
  exact ⟨x, hx, hc 0 _ rfl, fun j v hj => ⟨_, rfl, by rw [add_add, Nat.add_comm 1 j]; exact hc (j + 1) v hj⟩, hc⟩
theorem Cells.head {w : World} {p : Addr} {b : List UInt8} (h : Cells w (some p) (bv b)) (hb : 0 < b.length) : w.cell? p = some (.int .u8 (idKind b).toNat) := by
  obtain ⟨x, hx, hc⟩ := h.byte hb
  cases hx
  have e : idKind b = b[0] := by unfold idKind; rw [List.getD_eq_getElem?_getD, List.getElem?_eq_getElem hb]; rfl
  rw [e]
  exact hc
theorem kid_cells {w : World} {g : Nat} {k : Kd} (h : Blk w g 59 (kdC k).toArray) : w.cell? ⟨g, 0, none⟩ = some (.string k.1) ∧ Cells w (some ⟨g, 1, none⟩) (bv k.2) := by
  refine ⟨h.cell 0, fun j v hv => ⟨_, rfl, ?_⟩⟩
  have := h.cell (1 + j)
  have e : (⟨g, 1, none⟩ : Addr).add j = ⟨g, 1 + j, none⟩ := by
    unfold Addr.add
    by_cases hj : j = 0
    · subst hj; rfl
    · rw [if_neg hj]
  rw [e, this, ← Array.getElem?_toList, List.toList_toArray, Nat.add_comm 1 j]
  exact hv
end Go.Proofs.Ythepbcomeimcnaa
