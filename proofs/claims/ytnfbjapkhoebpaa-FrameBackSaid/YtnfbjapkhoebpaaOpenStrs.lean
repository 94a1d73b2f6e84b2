/- A row of strings as an argument. -/
import Derived.Test.YtnfbjapkhoebpaaOpen
import Derived.Test.YtnfbjapkhoebpaaStrs
namespace Go.Proofs.Ytnfbjapkhoebpaa
open Go.RowKit
set_option linter.unusedVariables false

/-- The strings' bytes. -/
def strsB (xs : List ByteArray) : List (List UInt8) := xs.map fun s => s.data.toList
theorem strsB_length (xs : List ByteArray) : (strsB xs).length = xs.length := by simp [strsB]
theorem strs_of_rd {w : World} {cs : List Value} {xs : List ByteArray} (h : rdSlice 1 16 rdStr w cs xs) :
    ∃ a c, cs = [.slice a xs.length c] ∧ xs.length ≤ c ∧ xs.length ≤ 8796093022208 ∧ Cells w a (sv (strsB xs)) ∧ ∀ x ∈ strsB xs, x.length ≤ 140737488351232 := by
  obtain ⟨a, c, hcs, hl, _, hb, hx⟩ := h
  refine ⟨a, c, hcs, hl, by omega, fun i v hv => ?_, fun x hm => ?_⟩
  · rw [strsB, ← sv_of] at hv
    obtain ⟨b, hbi, rfl⟩ : ∃ b, xs[i]? = some b ∧ Value.string b = v := by
      simp only [List.getElem?_map] at hv
      obtain ⟨b, h1, h2⟩ := Option.map_eq_some_iff.1 hv
      exact ⟨b, h1, h2⟩
    obtain ⟨ad, es, rfl, hel, hc, hr⟩ := hx i b hbi
    obtain ⟨hr, _⟩ := hr
    subst hr
    exact ⟨ad, rfl, by have := hc 0 _ rfl; rwa [Nat.mul_one] at this⟩
  · obtain ⟨b, hb2, rfl⟩ := List.mem_map.1 hm
    obtain ⟨i, hi, rfl⟩ := List.getElem_of_mem hb2
    obtain ⟨_, _, _, _, _, _, h1⟩ := hx i _ (List.getElem?_eq_getElem hi)
    rw [str_len]
    exact h1
end Go.Proofs.Ytnfbjapkhoebpaa
