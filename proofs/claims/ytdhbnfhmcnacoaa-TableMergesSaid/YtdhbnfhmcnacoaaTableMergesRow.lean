/- TableMerges: Merge answers what the document says; Get of it is Get of the last table that has the key. -/
import Derived.Test.YtdhbnfhmcnacoaaRows
import Derived.Test.YtdhbnfhmcnacoaaOpen
import Derived.Test.YtdhbnfhmcnacoaaTableMerges
import Derived.Test.YtdhbnfhmcnacoaaOpenTab
import Derived.Test.YtdhbnfhmcnacoaaOpenWss
namespace Go.Proofs.Ytdhbnfhmcnacoaa.tableMerges
open Go.ChangeShapes Go.WideShapes Go.ChangeAt Go.RowKit
set_option linter.unusedVariables false
theorem own : ownKnob Try.prog.godebug = none := by kernel_rfl
theorem laidOut : laidOutB Try.prog = true := by kernel_rfl
set_option maxRecDepth 100000 in
theorem lifted (os : Os) (started : os.Started) (H : Type) (enc : TypeId × Value → H) :
    ReturnsInHanded {} Try.checked os 4 .any (Rows.tableMergesSpec.pre6 enc Try.prog Try.f4 Rows.tableMergesRow.domain false) (Rows.tableMergesSpec.post enc Try.prog Try.f4 false true false false) := by
  refine returnsInHanded_of_change_sized (C := Try.checked) own started (by kernel_rfl) Try.func4
    (ChangeSpec.witness6 (enc := enc) (C := Try.checked) false ⟨#[], #[.bool false, .slice none 0 0, .string ByteArray.empty], []⟩ 8 (by kernel_rfl) (by kernel_rfl) (by kernel_rfl) (by kernel_rfl)) ?_
  intro W base args ds gs before hval0 hW hcnd hsz0 _
  have hsz : (DataW.weightsEach Try.prog (Try.f4.params.toList ++ Rows.tableMergesSpec.plain.varTypes Try.prog) (ds ++ gs)).all (· ≤ reachBytes) = true := hsz0
  have hval : ∀ (j : Nat) t v, Try.f4.params[j]? = some t → args[j]? = some v → Value.okWide Try.prog W .any base t v := hval0
  have hW' := hW
  obtain ⟨p, q, hA0, hV, rfl, hfz, hnd⟩ := hW
  have hA : DataW.TrodAll enc Try.prog W 0 (fun _ => true) true Try.f4.params.toList args.toList ds p := hA0
  rw [Try.params4] at hA hval hsz
  obtain ⟨v0, vs0, d0, ds0, p0, q0, hargs, rfl, rfl, h0, r0⟩ := trodAll_cons hA
  obtain ⟨v1, vs1, d1, ds1, p1, q1, rfl, rfl, rfl, h1, r1⟩ := trodAll_cons r0
  obtain ⟨v2, vs2, d2, ds2, p2, q2, rfl, rfl, rfl, h2, r2⟩ := trodAll_cons r1
  obtain ⟨rfl, rfl, rfl⟩ := trodAll_nil r2
  obtain rfl : args = #[v0, v1, v2] := by cases args; simp_all
  obtain ⟨rfl, rfl⟩ := trodVars_none hV
  have k0 := h0
  have lt0 := trod_blocks k0
  obtain ⟨x0, o0⟩ := open_arg (opens_bool Try.underlying4) 0 hsz rfl rfl h0
  obtain ⟨a0, rfl, _⟩ := Go.RowKit.open_bool Try.underlying4 (hval 0 4 v0 rfl rfl) h0
  obtain rfl : a0 = x0 := by simpa [rdBool, Value.cells] using o0
  have k1 := h1
  have lt1 := trod_blocks k1
  obtain ⟨x1, o1⟩ := open_arg (opens_writess) 1 hsz rfl rfl h1
  obtain ⟨a1, len1, cap1, rfl⟩ := okWide_slice Try.underlying43 (hval 1 43 v1 rfl rfl)
  obtain ⟨b1, c1, e1, hl1, hn1, hr1, hx1⟩ := writess_of_rd o1
  obtain ⟨rfl, rfl, rfl⟩ : a1 = b1 ∧ len1 = x1.length ∧ cap1 = c1 := by simpa [Value.cells] using e1
  have k2 := h2
  have lt2 := trod_blocks k2
  obtain ⟨x2, o2⟩ := open_arg (opens_str Try.underlying9) 2 hsz rfl rfl h2
  obtain ⟨e2, hs2⟩ := o2
  obtain ⟨s2, rfl, _, _, _⟩ := Go.ChangeMaps.open_string Try.underlying9 (hval 2 9 v2 rfl rfl) h2
  obtain rfl : s2 = x2 := by simpa [Value.cells] using e2
  clear hA0 hval0 hsz0 hsz
  refine (tableMerges_calls a0 x1 _ _ _ s2 W hr1 rfl hn1 hx1 hs2).mono fun e W' ⟨he, bel⟩ => ?_
  subst he
  exact ⟨_, rfl, _, _, _, [], _, [], hW', trodAll_mk1 (shut_bool Try.underlying4 _), (trodAll_cons_mk (Below.trod laidOut (by kernel_rfl) (of_decide_eq_true (by kernel_rfl)) k0 bel lt0) (trodAll_cons_mk (Below.trod laidOut (by kernel_rfl) (of_decide_eq_true (by kernel_rfl)) k1 bel lt1) (trodAll_cons_mk (Below.trod laidOut (by kernel_rfl) (of_decide_eq_true (by kernel_rfl)) k2 bel lt2) trodAll_mk0))), rfl, bel.frame _, fun h => by cases h⟩
set_option maxHeartbeats 8000000 in
theorem closed : joinedFacts Try.prog 4 Try.f4 Rows.tableMergesSpec Rows.tableMergesRow = true := by
  unfold joinedFacts
  simp only [Bool.and_eq_true]
  repeat' apply And.intro
  all_goals (as_aux_lemma => kernel_rfl)
theorem named : Try.pinned.checked.prog.funcNamed Rows.tableMergesRow.func = some 4 := by kernel_rfl
theorem wrap : Try.f4.isWrapper Try.pinned.checked.prog Rows.tableMergesRow.wrapper Rows.tableMergesRow.mainSum := by unfold Func.isWrapper; first | (rw [if_pos (by decide +kernel)]; kernel_rfl) | (rw [if_neg (by decide +kernel)]; exact ⟨rfl, rfl⟩)
theorem over : Rows.tableMergesRow.holds Try.pinned (OpenSpec.ofChange Rows.tableMergesSpec) :=
  OpenClaim.holds_of_wide 4 Try.f4 rfl rfl rfl rfl rfl rfl rfl ⟨rfl, rfl, rfl, rfl, rfl⟩ rfl rfl rfl rfl rfl named Try.func4 closed
    (of_decide_eq_true (by as_aux_lemma => kernel_rfl)) wrap
    (fun os started H enc _ => lifted os started H enc)
end Go.Proofs.Ytdhbnfhmcnacoaa.tableMerges
namespace Go.Proofs.Ytdhbnfhmcnacoaa
/-- The row. -/
theorem tableMerges_holds : Rows.TableMergesSaid := tableMerges.over
#print axioms tableMerges_holds
end Go.Proofs.Ytdhbnfhmcnacoaa
