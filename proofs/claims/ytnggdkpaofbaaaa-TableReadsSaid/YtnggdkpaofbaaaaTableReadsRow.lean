/- TableReads: Read answers what the document says, of any bytes; a table is read from its bytes, whatever noughts stand behind. -/
import Derived.Test.YtnggdkpaofbaaaaRows
import Derived.Test.YtnggdkpaofbaaaaOpen
import Derived.Test.YtnggdkpaofbaaaaTableReads
import Derived.Test.YtnggdkpaofbaaaaOpenTab
import Derived.Test.YtnggdkpaofbaaaaOpen2
namespace Go.Proofs.Ytnggdkpaofbaaaa.tableReads
open Go.ChangeShapes Go.WideShapes Go.ChangeAt Go.RowKit
set_option linter.unusedVariables false
theorem own : ownKnob Try.prog.godebug = none := by kernel_rfl
theorem laidOut : laidOutB Try.prog = true := by kernel_rfl
set_option maxRecDepth 100000 in
theorem lifted (os : Os) (started : os.Started) (H : Type) (enc : TypeId × Value → H) :
    ReturnsInHanded {} Try.checked os 6 .any (Rows.tableReadsSpec.pre6 enc Try.prog Try.f6 Rows.tableReadsRow.domain false) (Rows.tableReadsSpec.post enc Try.prog Try.f6 false true false false) := by
  refine returnsInHanded_of_change_sized (C := Try.checked) own started (by kernel_rfl) Try.func6
    (ChangeSpec.witness6 (enc := enc) (C := Try.checked) false ⟨#[], #[.slice none 0 0, .slice none 0 0, .int .i64 0], []⟩ 8 (by kernel_rfl) (by kernel_rfl) (by kernel_rfl) (by kernel_rfl)) ?_
  intro W base args ds gs before hval0 hW hcnd hsz0 _
  have hsz : (DataW.weightsEach Try.prog (Try.f6.params.toList ++ Rows.tableReadsSpec.plain.varTypes Try.prog) (ds ++ gs)).all (· ≤ reachBytes) = true := hsz0
  have hval : ∀ (j : Nat) t v, Try.f6.params[j]? = some t → args[j]? = some v → Value.okWide Try.prog W .any base t v := hval0
  have hW' := hW
  obtain ⟨p, q, hA0, hV, rfl, hfz, hnd⟩ := hW
  have hA : DataW.TrodAll enc Try.prog W 0 (fun _ => true) true Try.f6.params.toList args.toList ds p := hA0
  rw [Try.params6] at hA hval hsz
  obtain ⟨v0, vs0, d0, ds0, p0, q0, hargs, rfl, rfl, h0, r0⟩ := trodAll_cons hA
  obtain ⟨v1, vs1, d1, ds1, p1, q1, rfl, rfl, rfl, h1, r1⟩ := trodAll_cons r0
  obtain ⟨v2, vs2, d2, ds2, p2, q2, rfl, rfl, rfl, h2, r2⟩ := trodAll_cons r1
  obtain ⟨rfl, rfl, rfl⟩ := trodAll_nil r2
  obtain rfl : args = #[v0, v1, v2] := by cases args; simp_all
  obtain ⟨rfl, rfl⟩ := trodVars_none hV
  have k0 := h0
  have lt0 := trod_blocks k0
  obtain ⟨x0, o0⟩ := open_arg (opens_writes) 0 hsz rfl rfl h0
  obtain ⟨a0, len0, cap0, rfl⟩ := okWide_slice Try.underlying22 (hval 0 22 v0 rfl rfl)
  obtain ⟨b0, c0, e0, hl0, hn0, hr0, hx0⟩ := writes_of_rd o0
  obtain ⟨rfl, rfl, rfl⟩ : a0 = b0 ∧ len0 = x0.length ∧ cap0 = c0 := by simpa [Value.cells] using e0
  have k1 := h1
  have lt1 := trod_blocks k1
  obtain ⟨x1, o1⟩ := open_arg (opens_slice (sz := 1) (bytes := 1) Try.underlying31 (by kernel_rfl) (by kernel_rfl) (opens_u8 Try.underlying5)) 1 hsz rfl rfl h1
  obtain ⟨a1, len1, cap1, rfl⟩ := okWide_slice Try.underlying31 (hval 1 31 v1 rfl rfl)
  obtain ⟨b1, c1, e1, hl1, hn1, hc1⟩ := bytes_of_rd o1
  obtain ⟨rfl, rfl, rfl⟩ : a1 = b1 ∧ len1 = x1.length ∧ cap1 = c1 := by simpa [Value.cells] using e1
  have k2 := h2
  have lt2 := trod_blocks k2
  obtain ⟨x2, o2⟩ := open_arg (opens_i64 Try.underlying3) 2 hsz rfl rfl h2
  obtain ⟨a2, rfl, _, _, _⟩ := open_int Try.underlying3 (hval 2 3 v2 rfl rfl) h2
  obtain ⟨e2, lo2, hi2⟩ := o2
  obtain rfl : a2 = x2 := by simpa [Value.cells] using e2
  clear hA0 hval0 hsz0 hsz
  refine (tableReads_calls x0 _ _ _ x1 _ _ _ a2 W hr0 rfl hn0 hx0 hc1 rfl hl1 hn1 lo2 hi2).mono fun e W' ⟨he, bel⟩ => ?_
  subst he
  exact ⟨_, rfl, _, _, _, [], _, [], hW', trodAll_mk1 (shut_bool Try.underlying4 _), (trodAll_cons_mk (Below.trod laidOut (by kernel_rfl) (of_decide_eq_true (by kernel_rfl)) k0 bel lt0) (trodAll_cons_mk (Below.trod laidOut (by kernel_rfl) (of_decide_eq_true (by kernel_rfl)) k1 bel lt1) (trodAll_cons_mk (Below.trod laidOut (by kernel_rfl) (of_decide_eq_true (by kernel_rfl)) k2 bel lt2) trodAll_mk0))), rfl, bel.frame _, fun h => by cases h⟩
set_option maxHeartbeats 8000000 in
theorem closed : joinedFacts Try.prog 6 Try.f6 Rows.tableReadsSpec Rows.tableReadsRow = true := by
  unfold joinedFacts
  simp only [Bool.and_eq_true]
  repeat' apply And.intro
  all_goals (as_aux_lemma => kernel_rfl)
theorem named : Try.pinned.checked.prog.funcNamed Rows.tableReadsRow.func = some 6 := by kernel_rfl
theorem wrap : Try.f6.isWrapper Try.pinned.checked.prog Rows.tableReadsRow.wrapper Rows.tableReadsRow.mainSum := by unfold Func.isWrapper; first | (rw [if_pos (by decide +kernel)]; kernel_rfl) | (rw [if_neg (by decide +kernel)]; exact ⟨rfl, rfl⟩)
theorem over : Rows.tableReadsRow.holds Try.pinned (OpenSpec.ofChange Rows.tableReadsSpec) :=
  OpenClaim.holds_of_wide 6 Try.f6 rfl rfl rfl rfl rfl rfl rfl ⟨rfl, rfl, rfl, rfl, rfl⟩ rfl rfl rfl rfl rfl named Try.func6 closed
    (of_decide_eq_true (by as_aux_lemma => kernel_rfl)) wrap
    (fun os started H enc _ => lifted os started H enc)
end Go.Proofs.Ytnggdkpaofbaaaa.tableReads
namespace Go.Proofs.Ytnggdkpaofbaaaa
/-- The row. -/
theorem tableReads_holds : Rows.TableReadsSaid := tableReads.over
#print axioms tableReads_holds
end Go.Proofs.Ytnggdkpaofbaaaa
