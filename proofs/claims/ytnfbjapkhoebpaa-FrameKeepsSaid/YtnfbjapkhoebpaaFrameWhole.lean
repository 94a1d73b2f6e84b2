/- Records put one behind the other and cut: the plain law. -/
import Derived.Test.YtnfbjapkhoebpaaFrameLaw
namespace Go.Proofs.Ytnfbjapkhoebpaa
open Go.RowKit
set_option linter.unusedVariables false

theorem frs_append (xs ys : List (List UInt8)) : frs (xs ++ ys) = frs xs ++ frs ys := by simp [frs]
theorem frs_one (x : List UInt8) : frs [x] = fr x := by simp [frs]
theorem frs_next (xs : List (List UInt8)) (k : Nat) (h : k < xs.length) : frs (xs.take (k + 1)) = frs (xs.take k) ++ fr xs[k] := by
  rw [List.take_succ_eq_append_getElem h, frs_append, frs_one]
theorem frs_mono (xs : List (List UInt8)) (a b : Nat) (h : a ≤ b) : (frs (xs.take a)).length ≤ (frs (xs.take b)).length := by
  have : xs.take a = (xs.take b).take a := by rw [List.take_take, Nat.min_eq_left h]
  rw [this]
  conv => rhs; rw [← List.take_append_drop a (xs.take b), frs_append, List.length_append]
  exact Nat.le_add_right _ _

/-- Of the first k records m are whole up to the cut. -/
def WholeTo (xs : List (List UInt8)) (cut : Int) (m k : Nat) : Prop :=
  m ≤ k ∧ (m = 0 ∨ ((frs (xs.take m)).length : Int) ≤ cut) ∧ (m < k → cut < (frs (xs.take (m + 1))).length)
theorem WholeTo.start (xs : List (List UInt8)) (cut : Int) : WholeTo xs cut 0 0 := ⟨Nat.le_refl _, .inl rfl, fun h => absurd h (Nat.lt_irrefl _)⟩
theorem WholeTo.more {xs : List (List UInt8)} {cut : Int} {m k : Nat} (h : WholeTo xs cut m k) (hk : ((frs (xs.take (k + 1))).length : Int) ≤ cut) : WholeTo xs cut (m + 1) (k + 1) := by
  obtain ⟨h1, h2, h3⟩ := h
  have : m = k := by
    refine Nat.le_antisymm h1 (Nat.le_of_not_lt fun hlt => ?_)
    have h4 := h3 hlt
    have h5 := frs_mono xs (m + 1) (k + 1) (by omega)
    omega
  subst this
  exact ⟨Nat.le_refl _, .inr hk, fun h => absurd h (Nat.lt_irrefl _)⟩
theorem WholeTo.less {xs : List (List UInt8)} {cut : Int} {m k : Nat} (h : WholeTo xs cut m k) (hk : cut < ((frs (xs.take (k + 1))).length : Int)) : WholeTo xs cut m (k + 1) := by
  obtain ⟨h1, h2, h3⟩ := h
  refine ⟨by omega, h2, fun h4 => ?_⟩
  by_cases h5 : m < k
  · exact h3 h5
  · obtain rfl : m = k := by omega
    exact hk
theorem frs_whole (xs : List (List UInt8)) (h : ∀ x ∈ xs, x.length < 2 ^ 64) : splitB (frs xs) = (xs, []) := by
  have := splitB_frs xs h []
  rw [List.append_nil, splitB_none nextB_nil, List.append_nil] at this
  exact this
theorem WholeTo.cut {xs : List (List UInt8)} {q m : Nat} (h : WholeTo xs (q : Int) m xs.length) (hx : ∀ x ∈ xs, x.length < 2 ^ 64) (hq : q ≤ (frs xs).length) : (splitB ((frs xs).take q)).1 = xs.take m := by
  obtain ⟨h1, h2, h3⟩ := h
  by_cases hm : m < xs.length
  · have h4 := h3 hm
    have hle : (frs (xs.take m)).length ≤ q := by
      rcases h2 with rfl | h2
      · simp [frs]
      · omega
    have hd : frs xs = frs (xs.take m) ++ (fr xs[m] ++ frs (xs.drop (m + 1))) := by
      conv => lhs; rw [← List.take_append_drop (m + 1) xs, frs_append, frs_next xs m hm, List.append_assoc]
    rw [frs_next xs m hm, List.length_append] at h4
    rw [hd, List.take_append, List.take_of_length_le hle, List.take_append, show q - (frs (xs.take m)).length - (fr xs[m]).length = 0 by omega, List.take_zero, List.append_nil,
      splitB_frs _ (fun x hx' => hx x (List.mem_of_mem_take hx')), splitB_none (nextB_cut _ (hx _ (List.getElem_mem hm)) _ (by omega)), List.append_nil]
  · obtain rfl : m = xs.length := by omega
    have h5 : (frs xs).length ≤ q := by
      rcases h2 with h2 | h2
      · have : xs = [] := List.eq_nil_of_length_eq_zero h2
        rw [this]; simp [frs]
      · rw [List.take_length] at h2; omega
    rw [List.take_of_length_le h5, frs_whole xs hx, List.take_length]

theorem greatB_false {xs : List (List UInt8)} (h : greatB xs = false) : (xs.map List.length).sum ≤ 8192 ∧ xs.length ≤ 60 := by
  unfold greatB at h
  rw [decide_eq_false_iff_not] at h
  omega
theorem len_le_sum {xs : List (List UInt8)} {x : List UInt8} (h : x ∈ xs) : x.length ≤ (xs.map List.length).sum := by
  induction xs with
  | nil => cases h
  | cons y ys ih =>
    rw [List.map_cons, List.sum_cons]
    rcases List.mem_cons.1 h with rfl | h
    · omega
    · have := ih h; omega
theorem frs_len (xs : List (List UInt8)) (h : ∀ x ∈ xs, x.length ≤ 140737488351232) : (frs xs).length ≤ (xs.map List.length).sum + 14 * xs.length := by
  induction xs with
  | nil => simp [frs]
  | cons y ys ih =>
    have h1 := ih fun x hx => h x (by simp [hx])
    have h2 := h y (by simp)
    have h3 : (fr y).length ≤ y.length + 14 := by rw [fr_len, textB_len]; have := sizeN_64 (n := y.length) (by omega); omega
    rw [show frs (y :: ys) = fr y ++ frs ys from rfl, List.length_append, List.map_cons, List.sum_cons, List.length_cons]
    omega
end Go.Proofs.Ytnfbjapkhoebpaa
