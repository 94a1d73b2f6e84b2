/- make([]byte, n): a row of noughts of the call's own. -/
import Derived.Test.YtfjponmpjofbkaaDoorAppend
namespace Go.Proofs.YtfjponmpjofbkaaDoor
open Go.RowKit
set_option linter.unusedVariables false

theorem made_zero (n : Nat) : (madeCells (Value.int .u8 0).cells (n * 1)).toList = bv (List.replicate n 0) := by
  apply List.ext_getElem
  · simp [madeCells, bv]
  · intro i h1 h2
    simp [madeCells, bv, Value.cells, Nat.mod_one]

theorem wpList_make_u8 (w : World) {ops : Array Oper} {rest : List Oper} {o : Oper} {a : Act} {Q : Exit → Act → World → Prop} (hg : o.guard = none) (l c : Operand) (hop : o.op = Op.makeSlice 24 l c)
    (B n : Nat) (L C : Int) (hl : a.eval l = .int .i64 L) (hc : a.eval c = .int .i64 C) (hL : L = (n : Int)) (hC : C = (n : Int)) (hn : n ≤ 140737488351232) (hB : B ≤ w.heap.size)
    (hK : ∀ w', Own B w' (.slice (some ⟨w.heap.size, 0, none⟩) n n) (List.replicate n 0) → w.grownBy w' none → wpList Tryd.prog ops Q rest (a.put o.dst (.slice (some ⟨w.heap.size, 0, none⟩) n n)) w') : wpList Tryd.prog ops Q (o :: rest) a w := by
  obtain ⟨i, hi0, hz, hsize, hby⟩ := info_parts u8_info
  refine wpList_make_full w hg l c 24 hop B 5 i (.int .u8 0) 1 Tryd.underlying24 hi0 hz hsize .i64 .i64 L C n hl hc hL hC (by rw [hby]; omega) (by simp only [maxLen]; omega) hB ?_
  intro w' ho hgr
  refine hK w' ?_ hgr
  unfold Own
  rw [made_zero] at ho
  rw [List.length_replicate]
  exact ho
end Go.Proofs.YtfjponmpjofbkaaDoor
