/- The reader's contracts by values. -/
import Derived.Test.YtfohdngnflkfjaaCodeWrites
namespace Go.Proofs.Ytfohdngnflkfjaa
open Go.RowKit
set_option linter.unusedVariables false

theorem Rdr.lt {w : World} {g : Nat} {r : PR} (h : Rdr w g r) : g < w.heap.size := let ⟨_, _, h1, _⟩ := h; h1.lt
theorem Boxed.turns {w w' : World} {b g : Nat} {q : Pt} (h : Boxed w b q) (k : Turns w w' g) (hne : b ≠ g) : Boxed w' b q :=
  have e : some b ≠ some g := fun e => hne (Option.some.inj e)
  ⟨k.cell h.c0 e, k.cell h.c1 e, k.cell h.c2 e, k.cell h.c3 e, k.cell h.c4 e, k.cell h.c5 e⟩

theorem ruint_val (g : Nat) (r : PR) (m : Nat) (r' : PR) (w : World) (h : Rdr w g r) (hp : r.uint = (m, r')) :
    Calls Try.prog 21 #[.pointer (some ⟨g, 0, none⟩)] w fun e w' => e = .returned (.int .u64 (m : Nat)) ∧ Rdr w' g r' ∧ Turns w w' g := by
  have := ruint_calls g r w h
  rw [hp] at this
  exact this
theorem rint_val (g : Nat) (r : PR) (m : Int) (r' : PR) (w : World) (h : Rdr w g r) (hp : r.int = (m, r')) :
    Calls Try.prog 24 #[.pointer (some ⟨g, 0, none⟩)] w fun e w' => e = .returned (.int .i64 m) ∧ Rdr w' g r' ∧ Turns w w' g := by
  have := rint_calls g r w h
  rw [hp] at this
  exact this
theorem rin_val (g : Nat) (r : PR) (lo hi m : Int) (r' : PR) (w : World) (h : Rdr w g r) (hp : r.in_ lo hi = (m, r')) :
    Calls Try.prog 28 #[.pointer (some ⟨g, 0, none⟩), .int .i64 lo, .int .i64 hi] w fun e w' => e = .returned (.int .i64 m) ∧ Rdr w' g r' ∧ Turns w w' g := by
  have := rin_calls g r lo hi w h
  rw [hp] at this
  exact this
theorem rtake_val (g : Nat) (r : PR) (n : Int) (s : ByteArray) (r' : PR) (w : World) (h : Rdr w g r) (hp : r.take n = (s.data.toList, r')) :
    Calls Try.prog 17 #[.pointer (some ⟨g, 0, none⟩), .int .i64 n] w fun e w' => e = .returned (.string s) ∧ Rdr w' g r' ∧ Turns w w' g := by
  have := rtake_calls g r n w h
  rw [hp, bstr_of] at this
  exact this
theorem rtext_val (g : Nat) (r : PR) (n : Int) (s : ByteArray) (r' : PR) (w : World) (h : Rdr w g r) (hn : n ≤ 9223372036854775807) (hp : r.text n = (s.data.toList, r')) :
    Calls Try.prog 23 #[.pointer (some ⟨g, 0, none⟩), .int .i64 n] w fun e w' => e = .returned (.string s) ∧ Rdr w' g r' ∧ Turns w w' g := by
  have := rtext_calls g r n w h hn
  rw [hp, bstr_of] at this
  exact this

theorem wrs_drop (xs : List Pt) (k : Nat) (h : k < xs.length) : wrs (xs.drop k) = xs[k].out ++ wrs (xs.drop (k + 1)) := by
  unfold wrs
  rw [List.drop_eq_getElem_cons h, List.flatMap_cons]
theorem PR.in_of (n : Int) (h0 : -9223372036854775808 ≤ n) (h1 : n ≤ 9223372036854775807) (r : List UInt8) : PR.in_ ⟨intB n ++ r, false⟩ n n = (n, ⟨r, false⟩) := by
  unfold PR.in_
  rw [PR.int_of n h0 h1]
  simp

end Go.Proofs.Ytfohdngnflkfjaa
