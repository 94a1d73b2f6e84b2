/- append(x, make([]byte, n)...): noughts behind a row of the call's own. -/
import Derived.Test.YtnggdkpaofbaaaaAppend
namespace Go.Proofs.Ytnggdkpaofbaaaa
open Go.RowKit
set_option linter.unusedVariables false

theorem str_zeros (n : Nat) : (Lib.strCells (bstr (List.replicate n 0))).toArray = Builtin.zeroCells (Value.int .u8 0).cells n := by
  apply Array.ext'
  rw [List.toList_toArray, Lib.strCells, bstr_data]
  apply List.ext_getElem
  · simp [Builtin.zeroCells, Value.cells]
  · intro i h1 h2
    simp [Builtin.zeroCells, Value.cells, Nat.mod_one]

theorem run_append_zeros {P : Program} (w : World) (t tn u ty e : TypeId) (i : TypeInfo) (ht : P.underlying t = some (.slice e)) (htn : P.underlying tn = some (.int .i64)) (hu : P.underlying u = some .string) (hi : P.info? e = some i) (hz : i.zero = some (.int .u8 0)) (hs : i.size = 1) (hb : i.bytes = 1)
    (b : Option Addr) (l c n : Nat) (hn : 0 < n) (hln : l + n ≤ 140737488355328) :
    (Builtin.append_ #[t, tn] ty #[.slice b l c, .int .i64 n]).run P w = (Builtin.append_ #[t, u] ty #[.slice b l c, .string (bstr (List.replicate n 0))]).run P w := by
  have hsz : (bstr (List.replicate n 0)).size = n := by rw [bstr_size, List.length_replicate]
  have hw : IntKind.i64.wrap (n : Int) = n := by rw [IntKind.wrap_i64]; omega
  have hneg : ¬ ((n : Int) < 0) := by omega
  have h48i : ¬ (281474976710656 < (n : Int)) := by omega
  have h63' : ¬ (9223372036854775807 < ((l : Int) + (n : Int))) := by omega
  have hne : n ≠ 0 := by omega
  have hf := fun w => Lib.run_firstCells_string (P := P) w 1 (bstr (List.replicate n 0))
  simp only [hsz] at hf
  have h48' : l + n ≤ c ∨ ¬ (281474976710656 < Builtin.nextslicecap (l + n) c) := by
    by_cases h : l + n ≤ c
    · exact .inl h
    · right
      have := nextslicecap_le (need := l + n) (old := c) (by omega)
      omega
  rcases h48' with h | h
  · simp [Builtin.append_, run_underlying ht, run_underlying htn, run_underlying hu, sizeOf, typeInfo, zeroValue, hi, hz, hs, hb, asInt, asIntOf, hw, hneg, h48i, hne, Builtin.lenOf, hsz, h, hf, str_zeros]
  · by_cases hc : l + n ≤ c
    · simp [Builtin.append_, run_underlying ht, run_underlying htn, run_underlying hu, sizeOf, typeInfo, zeroValue, hi, hz, hs, hb, asInt, asIntOf, hw, hneg, h48i, hne, Builtin.lenOf, hsz, hc, hf, str_zeros]
    · simp [Builtin.append_, run_underlying ht, run_underlying htn, run_underlying hu, sizeOf, typeInfo, zeroValue, hi, hz, hs, hb, asInt, asIntOf, hw, hneg, h48i, hne, Builtin.lenOf, hsz, hc, hf, str_zeros, h, h63', Question.forced]
end Go.Proofs.Ytnggdkpaofbaaaa
