/- A node as an argument. -/
import Derived.Test.YtmfmpbeempjeoaaOpen2
import Derived.Test.YtmfmpbeempjeoaaLeafGood
namespace Go.Proofs.Ytmfmpbeempjeoaa
open Go.RowKit
set_option linter.unusedVariables false

theorem strs_of_rd {w : World} {cs : List Value} {xs : List ByteArray} (h : rdSlice 1 16 rdStr w cs xs) :
    ∃ a c, cs = [.slice a xs.length c] ∧ xs.length ≤ c ∧ xs.length ≤ 140737488351232 ∧ Cells w a (sv xs) ∧ ∀ x ∈ xs, x.size ≤ 140737488351232 := by
  obtain ⟨a, c, hcs, hl, _, hb, hx⟩ := h
  refine ⟨a, c, hcs, hl, by omega, fun i v hv => ?_, fun x hm => ?_⟩
  · obtain ⟨b, hbi, rfl⟩ : ∃ b, xs[i]? = some b ∧ Value.string b = v := by
      simp only [sv, List.getElem?_map] at hv
      obtain ⟨b, h1, h2⟩ := Option.map_eq_some_iff.1 hv
      exact ⟨b, h1, h2⟩
    obtain ⟨ad, es, rfl, hel, hc, hr⟩ := hx i b hbi
    obtain ⟨hr, _⟩ := hr
    subst hr
    exact ⟨ad, rfl, by have := hc 0 _ rfl; rwa [Nat.mul_one] at this⟩
  · obtain ⟨i, hi, rfl⟩ := List.getElem_of_mem hm
    obtain ⟨_, _, _, _, _, _, h1⟩ := hx i _ (List.getElem?_eq_getElem hi)
    exact h1

def rdNode : Rd Nd := fun w cs n => ∃ (ka va da : Option Addr) (K V D kc vc dc : Nat), cs = [.bool n.leaf, .slice ka K kc, .slice va V vc, .slice da D dc] ∧ NdAt w n ka va da K V D kc vc dc
theorem cells_bool : Try.prog.cellsOf 4 = 1 := by kernel_rfl
theorem cells_strs : Try.prog.cellsOf 22 = 1 := by kernel_rfl
theorem cells_ints : Try.prog.cellsOf 23 = 1 := by kernel_rfl
theorem cells_node : Try.prog.cellsOf 25 = 4 := by kernel_rfl
theorem opens_strs : Opens Try.prog 22 (rdSlice 1 16 rdStr) := opens_slice (sz := 1) (bytes := 16) Try.underlying22 (by kernel_rfl) (by kernel_rfl) (opens_str Try.underlying9)
theorem opens_ints : Opens Try.prog 23 (rdSlice 1 8 rdI64) := opens_slice (sz := 1) (bytes := 8) Try.underlying23 (by kernel_rfl) (by kernel_rfl) (opens_i64 Try.underlying3)
theorem opens_node : Opens Try.prog 25 rdNode := by
  refine opens_struct Try.underlying25 fun w cs hl hf => ?_
  rw [cells_node] at hl
  match cs, hl with
  | [a, b, c, d], _ =>
    obtain ⟨x0, h0⟩ := field1 (v := a) (hf 0 _ rfl Bool rdBool (opens_bool Try.underlying4)) cells_bool rfl
    obtain ⟨x1, h1⟩ := field1 (v := b) (hf 1 _ rfl (List ByteArray) _ opens_strs) cells_strs rfl
    obtain ⟨x2, h2⟩ := field1 (v := c) (hf 2 _ rfl (List ByteArray) _ opens_strs) cells_strs rfl
    obtain ⟨x3, h3⟩ := field1 (v := d) (hf 3 _ rfl (List Int) _ opens_ints) cells_ints rfl
    obtain ⟨a1, c1, e1, l1, m1, p1, q1⟩ := strs_of_rd h1
    obtain ⟨a2, c2, e2, l2, m2, p2, q2⟩ := strs_of_rd h2
    obtain ⟨a3, c3, e3, l3, m3, p3, q3⟩ := ints_of_rd h3
    simp only [rdBool, List.cons.injEq, and_true] at h0 e1 e2 e3
    subst h0 e1 e2 e3
    exact ⟨⟨x0, x1, x2, x3⟩, a1, a2, a3, _, _, _, c1, c2, c3, rfl, ⟨rfl, rfl, rfl, l1, l2, l3, p1, p2, p3, m1, m2, m3, q1, q2, q3⟩⟩
theorem node_of_rd {w : World} {cs : Array Value} {n : Nd} (h : rdNode w (Value.agg cs).cells.toList n) : ∃ (ka va da : Option Addr) (K V D kc vc dc : Nat), cs = #[.bool n.leaf, .slice ka K kc, .slice va V vc, .slice da D dc] ∧ NdAt w n ka va da K V D kc vc dc := by
  obtain ⟨ka, va, da, K, V, D, kc, vc, dc, e, h⟩ := h
  refine ⟨ka, va, da, K, V, D, kc, vc, dc, ?_, h⟩
  apply Array.ext'
  exact e
end Go.Proofs.Ytmfmpbeempjeoaa
