/- FnvParts is true of every input, without conditions: sums that part go on parting as long as the same bytes follow, and of two bytes that part the sums part. -/
import Derived.Test.YtjnpmleehapkcaaRows
import Derived.Test.YtjnpmleehapkcaaOpen
import Derived.Test.YtjnpmleehapkcaaFnvParts
namespace Go.Proofs.Ytjnpmleehapkcaa.fnvParts
open Go.ChangeShapes Go.WideShapes Go.ChangeAt Go.RowKit
set_option linter.unusedVariables false
theorem own : ownKnob Try.prog.godebug = none := by kernel_rfl
theorem laidOut : laidOutB Try.prog = true := by kernel_rfl
set_option maxRecDepth 100000 in
theorem lifted (os : Os) (started : os.Started) (H : Type) (enc : TypeId × Value → H) :
    ReturnsInHanded {} Try.checked os 4 .any (Rows.fnvPartsSpec.pre6 enc Try.prog Try.f4 Rows.fnvPartsRow.domain false) (Rows.fnvPartsSpec.post enc Try.prog Try.f4 false true false false) := by
  refine returnsInHanded_of_change_sized (C := Try.checked) own started (by kernel_rfl) Try.func4
    (ChangeSpec.witness6 (enc := enc) (C := Try.checked) false ⟨#[], #[.int .u64 0, .int .u64 0, .slice none 0 0, .int .u8 0, .int .u8 0], []⟩ 8 (by kernel_rfl) (by kernel_rfl) (by kernel_rfl) (by kernel_rfl)) ?_
  intro W base args ds gs before hval0 hW hcnd hsz0 _
  have hsz : (DataW.weightsEach Try.prog (Try.f4.params.toList ++ Rows.fnvPartsSpec.plain.varTypes Try.prog) (ds ++ gs)).all (· ≤ reachBytes) = true := hsz0
  have hval : ∀ (j : Nat) t v, Try.f4.params[j]? = some t → args[j]? = some v → Value.okWide Try.prog W .any base t v := hval0
  have hW' := hW
  obtain ⟨p, q, hA0, hV, rfl, hfz, hnd⟩ := hW
  have hA : DataW.TrodAll enc Try.prog W 0 (fun _ => true) true Try.f4.params.toList args.toList ds p := hA0
  rw [Try.params4] at hA hval hsz
  obtain ⟨v0, vs0, d0, ds0, p0, q0, hargs, rfl, rfl, h0, r0⟩ := trodAll_cons hA
  obtain ⟨v1, vs1, d1, ds1, p1, q1, rfl, rfl, rfl, h1, r1⟩ := trodAll_cons r0
  obtain ⟨v2, vs2, d2, ds2, p2, q2, rfl, rfl, rfl, h2, r2⟩ := trodAll_cons r1
  obtain ⟨v3, vs3, d3, ds3, p3, q3, rfl, rfl, rfl, h3, r3⟩ := trodAll_cons r2
  obtain ⟨v4, vs4, d4, ds4, p4, q4, rfl, rfl, rfl, h4, r4⟩ := trodAll_cons r3
  obtain ⟨rfl, rfl, rfl⟩ := trodAll_nil r4
  obtain rfl : args = #[v0, v1, v2, v3, v4] := by cases args; simp_all
  obtain ⟨rfl, rfl⟩ := trodVars_none hV
  have k0 := h0
  have lt0 := trod_blocks k0
  obtain ⟨x0, o0⟩ := open_arg (opens_u64 Try.underlying22) 0 hsz rfl rfl h0
  obtain ⟨a0, rfl, _, _, _⟩ := open_int Try.underlying22 (hval 0 22 v0 rfl rfl) h0
  obtain rfl : a0 = x0.toNat := by simpa [rdU64, rdU8, Value.cells] using o0
  have k1 := h1
  have lt1 := trod_blocks k1
  obtain ⟨x1, o1⟩ := open_arg (opens_u64 Try.underlying22) 1 hsz rfl rfl h1
  obtain ⟨a1, rfl, _, _, _⟩ := open_int Try.underlying22 (hval 1 22 v1 rfl rfl) h1
  obtain rfl : a1 = x1.toNat := by simpa [rdU64, rdU8, Value.cells] using o1
  have k2 := h2
  have lt2 := trod_blocks k2
  obtain ⟨x2, o2⟩ := open_arg (opens_slice (sz := 1) (bytes := 1) Try.underlying23 (by kernel_rfl) (by kernel_rfl) (opens_u8 Try.underlying5)) 2 hsz rfl rfl h2
  obtain ⟨a2, len2, cap2, rfl⟩ := okWide_slice Try.underlying23 (hval 2 23 v2 rfl rfl)
  obtain ⟨b2, c2, e2, hl2, hn2, hc2⟩ := bytes_of_rd o2
  obtain ⟨rfl, rfl, rfl⟩ : a2 = b2 ∧ len2 = x2.length ∧ cap2 = c2 := by simpa [Value.cells] using e2
  have k3 := h3
  have lt3 := trod_blocks k3
  obtain ⟨x3, o3⟩ := open_arg (opens_u8 Try.underlying5) 3 hsz rfl rfl h3
  obtain ⟨a3, rfl, _, _, _⟩ := open_int Try.underlying5 (hval 3 5 v3 rfl rfl) h3
  obtain rfl : a3 = x3.toNat := by simpa [rdU64, rdU8, Value.cells] using o3
  have k4 := h4
  have lt4 := trod_blocks k4
  obtain ⟨x4, o4⟩ := open_arg (opens_u8 Try.underlying5) 4 hsz rfl rfl h4
  obtain ⟨a4, rfl, _, _, _⟩ := open_int Try.underlying5 (hval 4 5 v4 rfl rfl) h4
  obtain rfl : a4 = x4.toNat := by simpa [rdU64, rdU8, Value.cells] using o4
  clear hA0 hval0 hsz0 hsz
  refine (parts_calls x0 x1 _ _ x2 x3 x4 W hc2 hn2).mono fun e W' ⟨he, bel⟩ => ?_
  subst he
  exact ⟨_, rfl, _, _, _, [], _, [], hW', trodAll_mk1 (shut_bool Try.underlying4 _), (trodAll_cons_mk (Below.trod laidOut (by kernel_rfl) (of_decide_eq_true (by kernel_rfl)) k0 bel lt0) (trodAll_cons_mk (Below.trod laidOut (by kernel_rfl) (of_decide_eq_true (by kernel_rfl)) k1 bel lt1) (trodAll_cons_mk (Below.trod laidOut (by kernel_rfl) (of_decide_eq_true (by kernel_rfl)) k2 bel lt2) (trodAll_cons_mk (Below.trod laidOut (by kernel_rfl) (of_decide_eq_true (by kernel_rfl)) k3 bel lt3) (trodAll_cons_mk (Below.trod laidOut (by kernel_rfl) (of_decide_eq_true (by kernel_rfl)) k4 bel lt4) trodAll_mk0))))), rfl, bel.frame _, fun h => by cases h⟩
theorem closed : joinedFacts Try.prog 4 Try.f4 Rows.fnvPartsSpec Rows.fnvPartsRow = true := by
  unfold joinedFacts
  simp only [Bool.and_eq_true]
  repeat' apply And.intro
  all_goals (as_aux_lemma => kernel_rfl)
theorem named : Try.pinned.checked.prog.funcNamed Rows.fnvPartsRow.func = some 4 := by kernel_rfl
theorem wrap : Try.f4.isWrapper Try.pinned.checked.prog Rows.fnvPartsRow.wrapper Rows.fnvPartsRow.mainSum := by unfold Func.isWrapper; first | (rw [if_pos (by decide +kernel)]; kernel_rfl) | (rw [if_neg (by decide +kernel)]; exact ⟨rfl, rfl⟩)
theorem over : Rows.fnvPartsRow.holds Try.pinned (OpenSpec.ofChange Rows.fnvPartsSpec) :=
  OpenClaim.holds_of_wide 4 Try.f4 rfl rfl rfl rfl rfl rfl rfl ⟨rfl, rfl, rfl, rfl, rfl⟩ rfl rfl rfl rfl rfl named Try.func4 closed
    (of_decide_eq_true (by as_aux_lemma => kernel_rfl)) wrap
    (fun os started H enc _ => lifted os started H enc)
end Go.Proofs.Ytjnpmleehapkcaa.fnvParts
namespace Go.Proofs.Ytjnpmleehapkcaa
/-- The row. -/
theorem fnvParts_holds : Rows.FnvPartsSaid := fnvParts.over
#print axioms fnvParts_holds
end Go.Proofs.Ytjnpmleehapkcaa
