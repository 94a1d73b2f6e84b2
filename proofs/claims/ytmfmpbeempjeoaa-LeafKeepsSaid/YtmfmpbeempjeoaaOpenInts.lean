/- A slice of integers as an argument. -/
import Derived.Test.YtmfmpbeempjeoaaOpen
namespace Go.Proofs.Ytmfmpbeempjeoaa
open Go.RowKit
set_option linter.unusedVariables false

/-- Integers as values. -/
def iv (xs : List Int) : List Value := xs.map fun n => .int .i64 n
theorem iv_get {xs : List Int} {k : Nat} (h : k < xs.length) : (iv xs)[k]? = some (.int .i64 xs[k]) := by simp [iv, h]

theorem ints_of_rd {w : World} {cs : List Value} {xs : List Int} (h : rdSlice 1 8 rdI64 w cs xs) :
    ∃ a c, cs = [.slice a xs.length c] ∧ xs.length ≤ c ∧ xs.length ≤ 140737488351232 ∧ Cells w a (iv xs) ∧ ∀ x ∈ xs, -9223372036854775808 ≤ x ∧ x ≤ 9223372036854775807 := by
  obtain ⟨a, c, hcs, hl, _, hb, hx⟩ := h
  refine ⟨a, c, hcs, hl, by omega, fun i v hv => ?_, fun x hm => ?_⟩
  · obtain ⟨b, hbi, rfl⟩ : ∃ b, xs[i]? = some b ∧ Value.int .i64 b = v := by
      simp only [iv, List.getElem?_map] at hv
      obtain ⟨b, h1, h2⟩ := Option.map_eq_some_iff.1 hv
      exact ⟨b, h1, h2⟩
    obtain ⟨ad, es, rfl, hel, hc, hr⟩ := hx i b hbi
    obtain ⟨hr, _⟩ := hr
    subst hr
    exact ⟨ad, rfl, by have := hc 0 _ rfl; rwa [Nat.mul_one] at this⟩
  · obtain ⟨i, hi, rfl⟩ := List.getElem_of_mem hm
    obtain ⟨_, _, _, _, _, _, h1, h2⟩ := hx i _ (List.getElem?_eq_getElem hi)
    exact ⟨h1, h2⟩
end Go.Proofs.Ytmfmpbeempjeoaa
