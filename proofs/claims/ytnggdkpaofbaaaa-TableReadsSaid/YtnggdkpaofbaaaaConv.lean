/- A string's bytes as a new slice. -/
import Derived.Test.YtnggdkpaofbaaaaBase
import Derived.Lib.ConvBytes
namespace Go.Proofs.Ytnggdkpaofbaaaa
open Go.RowKit

theorem conv_bytes {P : Program} {src dst e : TypeId} {u : TypeDesc} (hs : P.underlying src = some u) (hd : P.underlying dst = some (.slice e)) (he : P.underlying e = some (.int .u8)) (w : World) (s : ByteArray) :
    ∃ g c w', (convert src dst (.string s)).run P w = .ok (.slice (some ⟨g, 0, none⟩) s.size c) w' ∧ s.size ≤ c ∧ w.heap.size ≤ g ∧ g < w'.heap.size ∧ Cells w' (some ⟨g, 0, none⟩) (bv s.data.toList) ∧ Ext w w' := by
  refine ⟨w.heap.size, grownCap w s.size 0 e, Lib.bytesWorld w e s, Lib.run_convert_string_bytes w src dst e s hs hd he, ?_, Nat.le_refl _, ?_, ?_, ?_⟩
  · exact grownCap_ge w s.size 0 e
  · rw [Lib.bytesWorld_size]; omega
  · intro i v hv
    have hi : i < s.data.toList.length := by
      have h := hv
      rw [bv] at h
      by_cases hi : i < s.data.toList.length
      · exact hi
      · rw [List.getElem?_eq_none (by simpa using hi)] at h; cases h
    rw [bv_get hi] at hv
    cases hv
    refine ⟨_, rfl, ?_⟩
    rw [add_new, Lib.bytesWorld_cell w e s i (by rw [← str_len]; exact hi)]
    rw [List.getD_eq_getElem?_getD, List.getElem?_eq_getElem hi]
    rfl
  · refine ⟨rfl, rfl, rfl, ?_, ?_⟩
    · rw [Lib.bytesWorld_size]; omega
    · intro j hj
      exact Lib.bytesWorld_at_old w e s j hj
end Go.Proofs.Ytnggdkpaofbaaaa
