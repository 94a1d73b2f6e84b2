/- Names compared in a drawn region, bytes of a text, a pool's method: words that Read of layers 16 and 17 share. -/
import Derived.Test.YtcnhbodemabbdaaDoorQ28
import Derived.Test.YtcnhbodemabbdaaDoorQ24
import Derived.Test.YtcnhbodemabbdaaDoorQ27
import Derived.Test.YtcnhbodemabbdaaDoorQ26
namespace Go.Proofs.YtcnhbodemabbdaaDoor
open Go.RowKit
set_option linter.unusedVariables false

theorem tpool_method (gp : Nat) : ∀ (m : Nat) (w : World), (method (m + 2) 39 (.pointer (some ⟨gp, 0, none⟩)) "Object").run Tryd.prog w = .ok (142, .pointer (some ⟨gp, 0, none⟩)) w := fun m w => by kernel_rfl
theorem build_idz (w : World) : (Instr.build 27 #[]).run Tryd.prog w = .ok (.agg (bv idNone).toArray) w := run_build w 27 _ _ (by kernel_rfl)
theorem run_eq_id {o : Oper} {a : Act} {u : World} (s1 s2 : Nat) (c0 c1 : Array Value) (b : Bool) (ho : o.op = .binOp .eql 27 (.tmp s1) (.tmp s2) 27) (h1 : a.eval (.tmp s1) = .agg c0) (h2 : a.eval (.tmp s2) = .agg c1)
    (hz : (Op.equalIn 10000 27 (.agg c0) (.agg c1)).run Tryd.prog u = .ok b u) : (execOp a.eval o).run Tryd.prog u = .ok (.value (.bool b)) u := by
  have hg : Tryd.prog.eqGuardType Tryd.prog.depth 27 = false := by kernel_rfl
  unfold execOp
  simp [ho, h1, h2, eqGuard, hg, binOp, Op.equal, Op.maxDepth, hz]
theorem run_neq_id2 {o : Oper} {a : Act} {u : World} (s1 s2 : Nat) (c0 c1 : Array Value) (b : Bool) (ho : o.op = .binOp .neq 27 (.tmp s1) (.tmp s2) 27) (h1 : a.eval (.tmp s1) = .agg c0) (h2 : a.eval (.tmp s2) = .agg c1)
    (hz : (Op.equalIn 10000 27 (.agg c0) (.agg c1)).run Tryd.prog u = .ok b u) : (execOp a.eval o).run Tryd.prog u = .ok (.value (.bool (!b))) u := by
  have hg : Tryd.prog.eqGuardType Tryd.prog.depth 27 = false := by kernel_rfl
  unfold execOp
  simp [ho, h1, h2, eqGuard, hg, binOp, Op.equal, Op.maxDepth, hz]
theorem id_head {k : UInt8} (bs : List UInt8) (hk : 0 < idN k) : ∃ xs, idPad (idName k bs) = k :: xs := by
  have h2 : k = 1 ∨ k = 2 := by
    by_cases h1 : k = 1
    · exact .inl h1
    · by_cases h2 : k = 2
      · exact .inr h2
      · rw [idN_other h1 h2] at hk
        cases hk
  rcases h2 with rfl | rfl
  · unfold idName
    rw [if_pos rfl]
    exact ⟨_, rfl⟩
  · unfold idName
    rw [if_neg (by decide), if_pos rfl]
    exact ⟨_, rfl⟩
theorem conv_bytes2 (bs : List UInt8) (w : World) : ∃ c w', (convert 9 87 (.string (bstr bs))).run Tryd.prog w = .ok (.slice (some ⟨w.heap.size, 0, none⟩) bs.length c) w' ∧ bs.length ≤ c ∧ Cells w' (some ⟨w.heap.size, 0, none⟩) (bv bs) ∧ Ext w w' := by
  obtain ⟨c, w', h1, h2, h3, _⟩ := conv_bytes bs w
  have h := Lib.run_convert_string_bytes (P := Tryd.prog) w 9 87 5 (bstr bs) Tryd.underlying9 Tryd.underlying87 Tryd.underlying5
  rw [bstr_size, h1] at h
  refine ⟨c, w', h1, ?_, h2, h3⟩
  injection h with h _
  injection h with _ _ h
  rw [h]
  exact grownCap_ge w bs.length 0 _
theorem exec_convert {o : Oper} {ρ : Operand → Value} {s d : TypeId} {x : Operand} {v : Value} (ho : o.op = .convert s d x) (hx : ρ x = v) : execOp ρ o = (do pure (Next.value (← convert s d v))) := by
  unfold execOp
  rw [ho]
  simp only [hx]
theorem cell_blk {w : World} {g : Nat} {t : TypeId} {cs : Array Value} (h : Blk w g t cs) {p : Addr} {v : Value} (hp : p.block = g) (hc : w.cell? p = some v) : cs[p.off]? = some v := by
  unfold Blk at h
  subst hp
  simp only [World.cell?, h] at hc
  split at hc
  · cases hc
  · exact hc
end Go.Proofs.YtcnhbodemabbdaaDoor
