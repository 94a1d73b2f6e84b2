/- A row of parts as an argument. -/
import Derived.Test.YtfohdngnflkfjaaOpen2
import Derived.Test.YtfohdngnflkfjaaParts
namespace Go.Proofs.Ytfohdngnflkfjaa
open Go.RowKit
set_option linter.unusedVariables false

def rdPart : Rd Pt := fun _ cs p => cs = p.cs ∧ p.Ok
theorem cells_int : Try.prog.cellsOf 3 = 1 := by kernel_rfl
theorem cells_u64 : Try.prog.cellsOf 23 = 1 := by kernel_rfl
theorem cells_str : Try.prog.cellsOf 9 = 1 := by kernel_rfl
theorem cells_part : Try.prog.cellsOf 48 = 6 := by kernel_rfl
theorem opens_part : Opens Try.prog 48 rdPart := by
  refine opens_struct Try.underlying48 fun w cs hl hf => ?_
  rw [cells_part] at hl
  match cs, hl with
  | [a, b, c, d, e, f], _ =>
    obtain ⟨x0, h0, p0, q0⟩ := field1 (v := a) (hf 0 _ rfl Int rdI64 (opens_i64 Try.underlying3)) cells_int rfl
    obtain ⟨x1, h1⟩ := field1 (v := b) (hf 1 _ rfl (BitVec 64) rdU64 (opens_u64 Try.underlying23)) cells_u64 rfl
    obtain ⟨x2, h2, p2, q2⟩ := field1 (v := c) (hf 2 _ rfl Int rdI64 (opens_i64 Try.underlying3)) cells_int rfl
    obtain ⟨x3, h3, p3⟩ := field1 (v := d) (hf 3 _ rfl ByteArray rdStr (opens_str Try.underlying9)) cells_str rfl
    obtain ⟨x4, h4, p4, q4⟩ := field1 (v := e) (hf 4 _ rfl Int rdI64 (opens_i64 Try.underlying3)) cells_int rfl
    obtain ⟨x5, h5, p5, q5⟩ := field1 (v := f) (hf 5 _ rfl Int rdI64 (opens_i64 Try.underlying3)) cells_int rfl
    simp only [rdU64, List.cons.injEq, and_true] at h0 h1 h2 h3 h4 h5
    subst h0 h1 h2 h3 h4 h5
    exact ⟨⟨x0, x1.toNat, x2, x3, x4, x5⟩, rfl, ⟨by have := x1.isLt; simpa using this, p2, q2, p3, p4, q4, p5, q5⟩⟩

theorem pts_of_rd {w : World} {cs : List Value} {xs : List Pt} (h : rdSlice 6 56 rdPart w cs xs) :
    ∃ a c, cs = [.slice a xs.length c] ∧ xs.length ≤ c ∧ xs.length ≤ 140737488351232 ∧ Pts w a xs := by
  obtain ⟨a, c, hcs, hl, _, hb, hx⟩ := h
  refine ⟨a, c, hcs, hl, by omega, fun i p hp => ?_⟩
  obtain ⟨ad, es, rfl, hel, hc, rfl, hok⟩ := hx i p hp
  exact ⟨hok, ad, rfl, hc⟩
end Go.Proofs.Ytfohdngnflkfjaa
