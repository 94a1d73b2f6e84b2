/- An array that is filled from its beginning. -/
import Derived.Test.YtcnhbodemabbdaaDoorQ01
namespace Go.Proofs.YtcnhbodemabbdaaDoor
set_option linter.unusedVariables false

/-- Of n cells the first k are f's, the others z's. -/
def upTo (n k : Nat) (f z : Nat → Value) : Array Value := ((List.range n).map fun j => if j < k then f j else z j).toArray
section
variable {n k : Nat} {f z : Nat → Value}
theorem upTo_size : (upTo n k f z).size = n := by simp [upTo]
theorem upTo_get {j : Nat} (h : j < n) : (upTo n k f z)[j]? = some (if j < k then f j else z j) := by
  simp [upTo, h]
theorem upTo_old {j : Nat} (h : j < k) (hk : k ≤ n) : (upTo n k f z)[j]? = some (f j) := by
  rw [upTo_get (by omega), if_pos h]
theorem upTo_new {j : Nat} (h : k ≤ j) (hk : j < n) : (upTo n k f z)[j]? = some (z j) := by
  rw [upTo_get hk, if_neg (by omega)]
theorem upTo_set (h : k < n) : (upTo n k f z).setIfInBounds k (f k) = upTo n (k + 1) f z := by
  apply Array.ext_getElem?
  intro j
  rw [Array.getElem?_setIfInBounds]
  by_cases hj : j < n
  · rw [upTo_get hj, upTo_get hj, upTo_size]
    by_cases e : k = j
    · subst e
      simp [h]
    · rw [if_neg e]
      congr 1
      by_cases e2 : j < k
      · rw [if_pos e2, if_pos (by omega)]
      · rw [if_neg e2, if_neg (by omega)]
  · have e : k ≠ j := by omega
    rw [if_neg e, Array.getElem?_eq_none (by rw [upTo_size]; omega), Array.getElem?_eq_none (by rw [upTo_size]; omega)]
theorem upTo_all : upTo n n f z = ((List.range n).map f).toArray := by
  unfold upTo
  congr 1
  apply List.map_congr_left
  intro j hj
  rw [List.mem_range] at hj
  rw [if_pos hj]
theorem upTo_none : upTo n 0 f z = ((List.range n).map z).toArray := by simp [upTo]
end

/-- A part of an array of one-celled parts. -/
theorem run_index_arr {P : Program} {w : World} {t e : TypeId} {n : Nat} {cs : Array Value} {k : Nat} {v : Value} (hu : P.underlying t = some (.array n e)) (hs : (P.info? e).map (·.size) = some 1) (hc : cs[k]? = some v) (hk : k < n)
    {kk : IntKind} (he : P.underlying e = some (.int kk)) : (Instr.index t (.agg cs) (.int .i64 k)).run P w = .ok v w := by
  cases hq : P.info? e with
  | none => simp [hq] at hs
  | some i =>
    have hi : i.size = 1 := by simpa [hq] using hs
    simp [Instr.index, asIntOf, run_underlying hu, sizeOf, typeInfo, hq, hi, hk, part, isAgg, run_underlying he, hc]
end Go.Proofs.YtcnhbodemabbdaaDoor
