/- LeafDecodes is true of every input: Decode answers what the document says, of any bytes. -/
import Derived.Test.YtmfmpbeempjeoaaRows
import Derived.Test.YtmfmpbeempjeoaaOpen
import Derived.Test.YtmfmpbeempjeoaaLeafDecodes
namespace Go.Proofs.Ytmfmpbeempjeoaa.leafDecodes
open Go.ChangeShapes Go.WideShapes Go.ChangeAt Go.RowKit
set_option linter.unusedVariables false
theorem own : ownKnob Try.prog.godebug = none := by kernel_rfl
theorem laidOut : laidOutB Try.prog = true := by kernel_rfl
set_option maxRecDepth 100000 in
theorem lifted (os : Os) (started : os.Started) (H : Type) (enc : TypeId × Value → H) :
    ReturnsInHanded {} Try.checked os 5 .any (Rows.leafDecodesSpec.pre6 enc Try.prog Try.f5 Rows.leafDecodesRow.domain false) (Rows.leafDecodesSpec.post enc Try.prog Try.f5 false true false false) := by
  refine returnsInHanded_of_change_sized (C := Try.checked) own started (by kernel_rfl) Try.func5
    (ChangeSpec.witness6 (enc := enc) (C := Try.checked) false ⟨#[], #[.slice none 0 0], []⟩ 8 (by kernel_rfl) (by kernel_rfl) (by kernel_rfl) (by kernel_rfl)) ?_
  intro W base args ds gs before hval0 hW hcnd hsz0 _
  have hsz : (DataW.weightsEach Try.prog (Try.f5.params.toList ++ Rows.leafDecodesSpec.plain.varTypes Try.prog) (ds ++ gs)).all (· ≤ reachBytes) = true := hsz0
  have hval : ∀ (j : Nat) t v, Try.f5.params[j]? = some t → args[j]? = some v → Value.okWide Try.prog W .any base t v := hval0
  have hW' := hW
  obtain ⟨p, q, hA0, hV, rfl, hfz, hnd⟩ := hW
  have hA : DataW.TrodAll enc Try.prog W 0 (fun _ => true) true Try.f5.params.toList args.toList ds p := hA0
  rw [Try.params5] at hA hval hsz
  obtain ⟨v0, vs0, d0, ds0, p0, q0, hargs, rfl, rfl, h0, r0⟩ := trodAll_cons hA
  obtain ⟨rfl, rfl, rfl⟩ := trodAll_nil r0
  obtain rfl : args = #[v0] := by cases args; simp_all
  obtain ⟨rfl, rfl⟩ := trodVars_none hV
  have k0 := h0
  have lt0 := trod_blocks k0
  obtain ⟨x0, o0⟩ := open_arg (opens_slice (sz := 1) (bytes := 1) Try.underlying28 (by kernel_rfl) (by kernel_rfl) (opens_u8 Try.underlying5)) 0 hsz rfl rfl h0
  obtain ⟨a0, len0, cap0, rfl⟩ := okWide_slice Try.underlying28 (hval 0 28 v0 rfl rfl)
  obtain ⟨b0, c0, e0, hl0, hn0, hc0⟩ := bytes_of_rd o0
  obtain ⟨rfl, rfl, rfl⟩ : a0 = b0 ∧ len0 = x0.length ∧ cap0 = c0 := by simpa [Value.cells] using e0
  clear hA0 hval0 hsz0 hsz
  refine (leafDecodes_calls _ _ _ x0 W hc0 rfl hl0 hn0).mono fun e W' ⟨he, bel⟩ => ?_
  subst he
  exact ⟨_, rfl, _, _, _, [], _, [], hW', trodAll_mk1 (shut_bool Try.underlying4 _), (trodAll_cons_mk (Below.trod laidOut (by kernel_rfl) (of_decide_eq_true (by kernel_rfl)) k0 bel lt0) trodAll_mk0), rfl, bel.frame _, fun h => by cases h⟩
theorem closed : joinedFacts Try.prog 5 Try.f5 Rows.leafDecodesSpec Rows.leafDecodesRow = true := by
  unfold joinedFacts
  simp only [Bool.and_eq_true]
  repeat' apply And.intro
  all_goals (as_aux_lemma => kernel_rfl)
theorem named : Try.pinned.checked.prog.funcNamed Rows.leafDecodesRow.func = some 5 := by kernel_rfl
theorem wrap : Try.f5.isWrapper Try.pinned.checked.prog Rows.leafDecodesRow.wrapper Rows.leafDecodesRow.mainSum := by unfold Func.isWrapper; first | (rw [if_pos (by decide +kernel)]; kernel_rfl) | (rw [if_neg (by decide +kernel)]; exact ⟨rfl, rfl⟩)
theorem over : Rows.leafDecodesRow.holds Try.pinned (OpenSpec.ofChange Rows.leafDecodesSpec) :=
  OpenClaim.holds_of_wide 5 Try.f5 rfl rfl rfl rfl rfl rfl rfl ⟨rfl, rfl, rfl, rfl, rfl⟩ rfl rfl rfl rfl rfl named Try.func5 closed
    (of_decide_eq_true (by as_aux_lemma => kernel_rfl)) wrap
    (fun os started H enc _ => lifted os started H enc)
end Go.Proofs.Ytmfmpbeempjeoaa.leafDecodes
namespace Go.Proofs.Ytmfmpbeempjeoaa
/-- The row. -/
theorem leafDecodes_holds : Rows.LeafDecodesSaid := leafDecodes.over
#print axioms leafDecodes_holds
end Go.Proofs.Ytmfmpbeempjeoaa
