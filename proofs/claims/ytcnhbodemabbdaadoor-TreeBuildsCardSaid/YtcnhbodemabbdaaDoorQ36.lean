/- A region that does not draw, by the same invariant: operation for operation in the text's order. -/
import Derived.Test.YtcnhbodemabbdaaDoorQ15
namespace Go.Proofs.YtcnhbodemabbdaaDoor
open Go.RowKit
set_option linter.unusedVariables false

theorem wpOps_text {P : Program} {ops : Array Oper} {Q : Exit → Act → World → Prop} (I : (Nat → Bool) → Act → World → Prop) (hb : backward .any ops = true)
    (hstep : EachOp (fun i o => ∀ f a w, I f a w → f i = false → (∀ e ∈ o.after, Region.binds .any e = true → f e.on = true) → (∀ j o', ops[j]? = some o' → (o'.after.toList.any fun e => Region.binds .any e && e.on == i) = true → f j = false) → wpOp P ops Q i (I (upd f i)) a w) 0 ops.toList)
    (hdone : ∀ f a w, I f a w → (∀ i < ops.size, f i = true) → (∀ i, ops.size ≤ i → f i = false) → Q .normal a w) :
    ∀ (m k : Nat) (a : Act) (w : World), k + m = ops.size → I (fun j => decide (j < k)) a w → wpOps P ops Q (List.range' k m) a w
  | 0, k, a, w, hk, h => by
    refine hdone _ a w h (fun i hi => ?_) (fun i hi => ?_)
    · exact decide_eq_true (by omega)
    · exact decide_eq_false (by omega)
  | m + 1, k, a, w, hk, h => by
    rw [List.range'_succ, wpOps_cons]
    have hlt : k < ops.size := by omega
    have ho : ops[k]? = some ops[k] := Array.getElem?_eq_getElem hlt
    have h1 := EachOp.get ops.toList 0 hstep k ops[k] (by rw [Array.getElem?_toList]; exact ho)
    rw [Nat.zero_add] at h1
    refine wpOp_mono (fun a' w' h' => wpOps_text I hb hstep hdone m (k + 1) a' w' (by omega) ?_) (h1 _ a w h (decide_eq_false (Nat.lt_irrefl k)) (fun e he hbi => decide_eq_true (backward_at hb ho e he hbi)) fun j o' ho' hany => ?_)
    · have e : upd (fun j => decide (j < k)) k = fun j => decide (j < k + 1) := by
        funext j
        unfold upd
        by_cases hj : j = k
        · rw [if_pos hj, hj]; exact (decide_eq_true (Nat.lt_succ_self k)).symm
        · rw [if_neg hj, decide_eq_decide]; omega
      rwa [e] at h'
    · rw [List.any_eq_true] at hany
      obtain ⟨e, he, h2⟩ := hany
      simp only [Bool.and_eq_true, beq_iff_eq] at h2
      have := backward_at hb ho' e (by simpa using he) h2.1
      exact decide_eq_false (by omega)
theorem wp_region_text {P : Program} {ops : Array Oper} {Q : Exit → Act → World → Prop} {id : Nat} {a : Act} {w : World} (I : (Nat → Bool) → Act → World → Prop) (hb : backward .any ops = true)
    (hI : I (fun _ => false) a w)
    (hstep : EachOp (fun i o => ∀ f a w, I f a w → f i = false → (∀ e ∈ o.after, Region.binds .any e = true → f e.on = true) → (∀ j o', ops[j]? = some o' → (o'.after.toList.any fun e => Region.binds .any e && e.on == i) = true → f j = false) → wpOp P ops Q i (I (upd f i)) a w) 0 ops.toList)
    (hdone : ∀ f a w, I f a w → (∀ i < ops.size, f i = true) → (∀ i, ops.size ≤ i → f i = false) → Q .normal a w) : (Code.region id ops false).wp P Q a w := by
  refine wp_region ?_
  rw [List.range_eq_range']
  refine wpOps_text I hb hstep hdone ops.size 0 a w (by omega) ?_
  have e : (fun j => decide (j < 0)) = fun _ : Nat => false := by
    funext j
    exact decide_eq_false (Nat.not_lt_zero j)
  rw [e]
  exact hI
end Go.Proofs.YtcnhbodemabbdaaDoor
