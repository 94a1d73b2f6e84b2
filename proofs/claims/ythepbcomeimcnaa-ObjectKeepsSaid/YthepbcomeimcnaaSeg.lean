/- A part of a row, stored; append onto a literal without room: new memory only. -/
import Derived.Test.YthepbcomeimcnaaAppend
import Derived.Test.YthepbcomeimcnaaArr
namespace Go.Proofs.Ythepbcomeimcnaa
open Go.RowKit
set_option linter.unusedVariables false

theorem run_store_part {P : Program} {w : World} {g : Nat} {t ty : TypeId} {cs : Array Value} (h : Blk w g t cs) (o : Nat) {vs : Array Value} (hfit : o + vs.size ≤ cs.size) (hi : (P.info? ty).map (·.size) = some vs.size) (h1 : ∀ v ∈ vs.toList, v.oneCell' = true) :
    (Instr.storeAt ty (.pointer (some ⟨g, o, none⟩)) (.agg vs)).run P w = .ok () (w.setRow g (cs.toList.take o ++ vs.toList ++ cs.toList.drop (o + vs.size)).toArray) := by
  have hst := run_storeCells_at P g o t vs.toList 0 cs w h (by simpa using hfit) h1
  cases hq : P.info? ty with
  | none => simp [hq] at hi
  | some i =>
    have hsz : i.size = vs.size := by simpa [hq] using hi
    simp only [Nat.add_zero, Array.length_toList] at hst
    simp [Instr.storeAt, Instr.sureAddr, storeVar, Value.cells, sizeOf, typeInfo, hq, hsz, hst]
theorem wpList_store_part {P : Program} {ops : Array Oper} {rest : List Oper} {o : Oper} {a : Act} {w : World} {Q : Exit → Act → World → Prop} (hgd : o.guard = none) (ty : TypeId) (x y : Operand) (ho : o.op = .store ty x y) (hod : o.dst = none) (g off : Nat) (vs : Array Value)
    (hx : a.eval x = .pointer (some ⟨g, off, none⟩)) (hy : a.eval y = .agg vs) (t : TypeId) (cs : Array Value) (h : Blk w g t cs) (hfit : off + vs.size ≤ cs.size) (hi : (P.info? ty).map (·.size) = some vs.size) (h1 : ∀ v ∈ vs.toList, v.oneCell' = true)
    (hk : ∀ w' cs', cs'.size = cs.size → Blk w' g t cs' → w.grownBy w' (some g) → wpList P ops Q rest a w') : wpList P ops Q (o :: rest) a w := by
  refine wpList_plain hgd fun _ hK => ?_
  unfold Oper.wp execOp
  simp only [ho, hx, hy, Sem.run_bind, run_store_part h off hfit hi h1, Result.andThen_ok, Sem.run_pure]
  have hsz : (cs.toList.take off ++ vs.toList ++ cs.toList.drop (off + vs.size)).toArray.size = cs.size := by
    simp only [List.size_toArray, List.length_append, List.length_take, List.length_drop, Array.length_toList]
    omega
  have := hK _ _ (hk _ _ hsz (h.row _) ⟨rfl, rfl, rfl, by simp, fun k _ hne => setRow_other w g k _ (fun e => hne (by rw [e]))⟩)
  simpa [Oper.upon, hod, Act.put] using this

section
variable {P : Program} {w : World}
theorem run_append_new (base : Nat) (t e : TypeId) (z : Value) (size bytes : Nat) (ht : P.underlying t = some (.slice e)) (hi : (P.info? e).map (fun i => (i.zero, i.size, i.bytes)) = some (some z, size, bytes))
    (hzs : z.cells.size = size) (hsz : 0 < size) (b : Nat) (hlit : w.ownsRow base e size (.slice (some ⟨b, 0, none⟩) 0 0) 0 []) (A : Option Addr) (m c : Nat) (news : List Value) (hl : news.length = m * size) (hr : Cells w A news) (h1 : ∀ u ∈ news, u.oneCell' = true)
    (h63 : m ≤ maxLen) (hbytes : m * bytes ≤ 140737488355328) (hbase : base ≤ w.heap.size) (ty : TypeId) :
    ∃ v' w', (Builtin.append_ #[t, t] ty #[.slice (some ⟨b, 0, none⟩) 0 0, .slice A m c]).run P w = .ok v' w' ∧ w'.ownsRow base e size v' m news ∧ Ext w w' := by
  obtain ⟨i, hi0, hz, hsize, hby⟩ := info_parts hi
  rcases Nat.eq_zero_or_pos m with h0 | h0
  · subst h0
    have hn : news = [] := List.eq_nil_of_length_eq_zero (by simpa using hl)
    subst hn
    refine ⟨_, w, ?_, hlit, Ext.refl _⟩
    cases A <;> simp [Builtin.append_, run_underlying ht, sizeOf, typeInfo, hi0, Builtin.lenOf, Builtin.firstCells, storeCells, loadCells, loadCellsFrom]
  · have hne : 0 < news.length := by rw [hl]; exact Nat.mul_pos h0 hsz
    obtain ⟨ad, rfl, _⟩ := hr 0 _ (List.getElem?_eq_getElem hne)
    have hfit := growslice_fits (old := 0) (need := m) (bytes := bytes) h0 hbytes
    have hrun := run_append_grow (P := P) w t ty e i z ht hi0 hz ⟨b, 0, none⟩ 0 0 [] (by simp) (by intro j v hj; simp at hj) ad m c news (by rw [hsize]; exact hl)
      (fun j u hu => by obtain ⟨x, hx, hc⟩ := hr j u hu; cases hx; exact hc) (by omega) (by simp only [maxLen] at h63; omega) (by rw [Nat.zero_add, hby]; exact hfit)
    refine ⟨_, _, hrun, ?_, ((Ext.refl w).drew).alloc _⟩
    rw [Nat.zero_add]
    have hge := grownCap_ge w m 0 e
    have hcs : ((([] : List Value).toArray ++ news.toArray ++ Builtin.zeroCells z.cells (grownCap w m 0 e - m)).size) = grownCap w m 0 e * size := by
      simp only [Array.size_append, List.size_toArray, size_zeroCells, hzs, hl, List.length_nil, Nat.zero_add]
      rw [← Nat.add_mul]
      congr 1
      omega
    refine ⟨hl, .inr ⟨w.heap.size, _, _, rfl, hbase, heap_alloc_new w.drew _, hge, grownCap_le_maxLen w m 0 e h63, hcs, ?_⟩⟩
    simp only [Array.toList_append, List.nil_append]
    rw [List.take_append_of_le_length (by simp [hl]), List.take_of_length_le (by simp [hl])]
theorem wp_append_new {o : Oper} {a : Act} {K : Act → World → Prop} {Q : Exit → Act → World → Prop} (s x : Operand) (t : TypeId)
    (ho : o.op = .call { callee := .builtin .append, args := #[s, x], argTypes := #[t, t] })
    (base : Nat) (e : TypeId) (z : Value) (size bytes : Nat) (ht : P.underlying t = some (.slice e)) (hi : (P.info? e).map (fun i => (i.zero, i.size, i.bytes)) = some (some z, size, bytes))
    (hzs : z.cells.size = size) (hsz : 0 < size) (b : Nat) (hs : a.eval s = .slice (some ⟨b, 0, none⟩) 0 0) (hlit : w.ownsRow base e size (.slice (some ⟨b, 0, none⟩) 0 0) 0 []) (A : Option Addr) (m c : Nat) (news : List Value) (hx : a.eval x = .slice A m c) (hl : news.length = m * size) (hr : Cells w A news) (h1 : ∀ u ∈ news, u.oneCell' = true)
    (h63 : m ≤ maxLen) (hbytes : m * bytes ≤ 140737488355328) (hbase : base ≤ w.heap.size)
    (h : ∀ v' w', w'.ownsRow base e size v' m news → Ext w w' → K (a.put o.dst v') w') : o.wp P a w K Q := by
  obtain ⟨v', w', hrun, h2, h3⟩ := run_append_new (P := P) (w := w) base t e z size bytes ht hi hzs hsz b hlit A m c news hl hr h1 h63 hbytes hbase o.type
  unfold Oper.wp execOp
  simp only [ho, resolve, invoke, builtin, Sem.run_bind, Sem.run_pure, Result.andThen_ok, List.map_toArray, List.map_cons, List.map_nil, hs, hx, hrun]
  exact h v' w' h2 h3
end
end Go.Proofs.Ythepbcomeimcnaa
