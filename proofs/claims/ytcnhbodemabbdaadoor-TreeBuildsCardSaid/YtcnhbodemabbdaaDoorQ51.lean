/- A name as an argument. -/
import Derived.Test.YtcnhbodemabbdaaDoorQ50
import Derived.Test.YtcnhbodemabbdaaDoorQ17
namespace Go.Proofs.YtcnhbodemabbdaaDoor
open Go.RowKit
set_option linter.unusedVariables false

def rdId : Rd (List UInt8) := fun w cs b => cs = bv b ∧ b.length = 33
theorem cells_id : Tryd.prog.cellsOf 27 = 33 := by kernel_rfl
theorem cells_kind : Tryd.prog.cellsOf 5 = 1 := by kernel_rfl
theorem cells_sum : Tryd.prog.cellsOf 25 = 32 := by kernel_rfl
theorem opens_id : Opens Tryd.prog 27 rdId := by
  refine opens_struct Tryd.underlying27 fun w cs hl hf => ?_
  rw [cells_id] at hl
  obtain ⟨x, h0⟩ := hf 0 _ rfl UInt8 rdU8 (opens_u8 Tryd.underlying5)
  obtain ⟨xs, h1, h2⟩ := hf 1 _ rfl (List UInt8) (rdArr 32) (opens_arr Tryd.underlying25 Tryd.underlying5 cells_kind cells_sum)
  have h0' : (cs.drop 0).take 1 = [.int .u8 x.toNat] := by
    have : (cs.drop 0).take (Tryd.prog.cellsOf 5) = [.int .u8 x.toNat] := h0
    rwa [cells_kind] at this
  have h1' : (cs.drop 1).take 32 = bv xs := by
    have : (cs.drop 1).take (Tryd.prog.cellsOf 25) = bv xs := h1
    rwa [cells_sum] at this
  refine ⟨x :: xs, ?_, by rw [List.length_cons, h2]⟩
  rw [List.take_of_length_le (by rw [List.length_drop]; omega)] at h1'
  rw [List.drop_zero] at h0'
  show cs = .int .u8 x.toNat :: bv xs
  rw [← h1']
  conv => lhs; rw [← List.take_append_drop 1 cs, h0']
  rfl
theorem id_of_rd {w : World} {cs : Array Value} {b : List UInt8} (h : rdId w (Value.agg cs).cells.toList b) : cs = (bv b).toArray ∧ b.length = 33 := by
  obtain ⟨h1, h2⟩ := h
  refine ⟨?_, h2⟩
  apply Array.ext'
  rw [List.toList_toArray]
  exact h1
end Go.Proofs.YtcnhbodemabbdaaDoor
