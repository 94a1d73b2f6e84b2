/- Arguments: rows of rows of writes. -/
import Derived.Test.YtdhbnfhmcnacoaaOpenTab
import Derived.Test.YtdhbnfhmcnacoaaTabRows
namespace Go.Proofs.Ytdhbnfhmcnacoaa
open Go.RowKit
set_option linter.unusedVariables false

theorem opens_writess : Opens Try.prog 43 (rdSlice 1 24 (rdSlice 3 40 rdWrite)) := opens_slice (sz := 1) (bytes := 24) Try.underlying43 (by kernel_rfl) (by kernel_rfl) opens_writes
theorem writess_of_rd {w : World} {cs : List Value} {xs : List (List W3)} (h : rdSlice 1 24 (rdSlice 3 40 rdWrite) w cs xs) :
    ∃ a c, cs = [.slice a xs.length c] ∧ xs.length ≤ c ∧ xs.length ≤ 140737488351232 ∧ WSs w a xs ∧ ∀ l ∈ xs, l.length ≤ 140737488351232 ∧ ∀ p ∈ l, okW p := by
  obtain ⟨a, c, hcs, hl, _, hb, hx⟩ := h
  refine ⟨a, c, hcs, hl, by omega, fun i l hi => ?_, fun l hm => ?_⟩
  · obtain ⟨ad, es, rfl, hel, hc, hr⟩ := hx i l hi
    obtain ⟨A, c2, he, _, _, hrow, _⟩ := writes_of_rd hr
    subst he
    have h0 := hc 0 _ rfl
    rw [Nat.mul_one] at h0
    exact ⟨ad, _, rfl, h0, A, c2, rfl, hrow⟩
  · obtain ⟨i, hi, rfl⟩ := List.getElem_of_mem hm
    obtain ⟨ad, es, _, _, _, hr⟩ := hx i _ (List.getElem?_eq_getElem hi)
    obtain ⟨A, c2, _, _, hn, _, hok⟩ := writes_of_rd hr
    exact ⟨hn, hok⟩
end Go.Proofs.Ytdhbnfhmcnacoaa
