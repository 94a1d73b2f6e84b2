/- ShaEnds is true of every input, taking that sha's table reads as its initialiser lays it (tied to the program's text): so it does at each length around a block's end. -/
import Derived.Test.YtfjponmpjofbkaaDoorCards
import Derived.Test.YtfjponmpjofbkaaDoorTie
import Derived.SevenTiedAt
import Derived.Test.YtfjponmpjofbkaaDoorTab
import Derived.Test.YtfjponmpjofbkaaDoorOpen
import Derived.Test.YtfjponmpjofbkaaDoorShaEnds
namespace Go.Proofs.YtfjponmpjofbkaaDoor.shaEnds
open Go.ChangeShapes Go.WideShapes Go.ChangeAt Go.RowKit
set_option linter.unusedVariables false
theorem own : ownKnob Tryd.prog.godebug = none := by kernel_rfl
theorem laidOut : laidOutB Tryd.prog = true := by kernel_rfl
set_option maxRecDepth 100000 in
theorem lifted (os : Os) (started : os.Started) (H : Type) (enc : TypeId × Value → H) :
    ReturnsInHanded {} Tryd.checked os 4 .any (fun w args => (Rows.shaEndsSpec.pre enc Tryd.prog Tryd.f4 [] false w args ∧ laidMetH Tryd.prog laidL w) ∧ sizedMet enc Tryd.prog Tryd.f4 (OpenSpec.ofChange Rows.shaEndsSpec) false w args) (Rows.shaEndsSpec.post enc Tryd.prog Tryd.f4 false true false false) := by
  refine returnsInHanded_of_change_and (C := Tryd.checked) (X := fun w _ => laidMetH Tryd.prog laidL w) (fun _ _ _ hh h => h.of_heap hh) own started (by kernel_rfl) Tryd.func4
    (ChangeSpec.witness_shaped (enc := enc) (C := Tryd.checked) (os := os) (X := fun w _ => laidMetH Tryd.prog laidL w) false (World.doorLaid Tryd.prog 400 os) #[.int .i64 0, .int .u8 0] 8 rfl (World.shaped_of_RefB (by kernel_rfl) (by kernel_rfl)) (by kernel_rfl) (by kernel_rfl) (by kernel_rfl) (door_met os _)) ?_
  intro W base args ds gs before hval0 hW hcnd hsz0 hL _
  have hT := tab_of hL
  have hsz : (DataW.weightsEach Tryd.prog (Tryd.f4.params.toList ++ Rows.shaEndsSpec.plain.varTypes Tryd.prog) (ds ++ gs)).all (· ≤ reachBytes) = true := hsz0
  have hval : ∀ (j : Nat) t v, Tryd.f4.params[j]? = some t → args[j]? = some v → Value.okWide Tryd.prog W .any base t v := hval0
  have hW' := hW
  obtain ⟨p, q, hA0, hV, rfl, hfz, hnd⟩ := hW
  have hA : DataW.TrodAll enc Tryd.prog W 0 (fun _ => true) true Tryd.f4.params.toList args.toList ds p := hA0
  rw [Tryd.params4] at hA hval hsz
  obtain ⟨v0, vs0, d0, ds0, p0, q0, hargs, rfl, rfl, h0, r0⟩ := trodAll_cons hA
  obtain ⟨v1, vs1, d1, ds1, p1, q1, rfl, rfl, rfl, h1, r1⟩ := trodAll_cons r0
  obtain ⟨rfl, rfl, rfl⟩ := trodAll_nil r1
  obtain rfl : args = #[v0, v1] := by cases args; simp_all
  obtain ⟨rfl, rfl⟩ := trodVars_none hV
  have k0 := h0
  have lt0 := trod_blocks k0
  obtain ⟨x0, o0⟩ := open_arg (opens_i64 Tryd.underlying3) 0 hsz rfl rfl h0
  obtain ⟨a0, rfl, _, _, _⟩ := open_int Tryd.underlying3 (hval 0 3 v0 rfl rfl) h0
  obtain ⟨e0, lo0, hi0⟩ := o0
  obtain rfl : a0 = x0 := by simpa [Value.cells] using e0
  have k1 := h1
  have lt1 := trod_blocks k1
  obtain ⟨x1, o1⟩ := open_arg (opens_u8 Tryd.underlying5) 1 hsz rfl rfl h1
  obtain ⟨a1, rfl, _, _, _⟩ := open_int Tryd.underlying5 (hval 1 5 v1 rfl rfl) h1
  obtain rfl : a1 = x1.toNat := by simpa [rdU64, rdU8, Value.cells] using o1
  clear hA0 hval0 hsz0 hsz
  refine (ends_calls a0 x1 W hT lo0 hi0).mono fun e W' ⟨he, bel⟩ => ?_
  subst he
  exact ⟨_, rfl, _, _, _, [], _, [], hW', trodAll_mk1 (shut_bool Tryd.underlying4 _), (trodAll_cons_mk (Below.trod laidOut (by kernel_rfl) (of_decide_eq_true (by kernel_rfl)) k0 bel lt0) (trodAll_cons_mk (Below.trod laidOut (by kernel_rfl) (of_decide_eq_true (by kernel_rfl)) k1 bel lt1) trodAll_mk0)), rfl, bel.frame _, fun h => by cases h⟩
theorem closed : joinedFacts Tryd.prog 4 Tryd.f4 Rows.shaEndsSpec Rows.shaEndsRow = true := by
  unfold joinedFacts
  simp only [Bool.and_eq_true]
  repeat' apply And.intro
  all_goals (as_aux_lemma => kernel_rfl)
theorem named : Tryd.pinned.checked.prog.funcNamed Rows.shaEndsRow.func = some 4 := by kernel_rfl
theorem wrap : Tryd.f4.isWrapper Tryd.pinned.checked.prog Rows.shaEndsRow.wrapper Rows.shaEndsRow.mainSum := by unfold Func.isWrapper; first | (rw [if_pos (by decide +kernel)]; kernel_rfl) | (rw [if_neg (by decide +kernel)]; exact ⟨rfl, rfl⟩)
theorem over : Rows.shaEndsRow.holds Tryd.pinned (OpenSpec.ofChange Rows.shaEndsSpec) :=
  OpenClaim.holds_of_wide 4 Tryd.f4 rfl rfl rfl rfl rfl rfl rfl ⟨rfl, rfl, rfl, rfl, rfl⟩ rfl rfl rfl rfl rfl named Tryd.func4 closed
    (of_decide_eq_true (by as_aux_lemma => kernel_rfl)) wrap
    (fun os started H enc _ => lifted os started H enc)
end Go.Proofs.YtfjponmpjofbkaaDoor.shaEnds
namespace Go.Proofs.YtfjponmpjofbkaaDoor
/-- The tied card. -/
theorem shaEnds_holds : Rows.ShaEndsCardSaid :=
  Claim7.holds_tied_plain_at .later [] [.data] true Rows.shaEndsCard.stood.harness false
    shaEnds.over (fun _ h => by cases h) (by kernel_rfl) (fun _ h => by cases h) shaEnds_row_tie rfl ⟨rfl, rfl⟩ (by kernel_rfl) rfl
    (fun f fn hf hfn => by
      obtain rfl : f = 4 := Option.some.inj ((show Tryd.prog.funcNamed "rootstock/rootstocklaw03.ShaEnds" = some 4 by kernel_rfl).symm.trans hf) |>.symm
      obtain rfl : fn = Tryd.f4 := (Option.some.inj (Tryd.func4.symm.trans hfn)).symm
      exact ⟨by kernel_rfl, fun j t ht => by
        rw [Tryd.params4] at ht
        have hm : t ∈ [3, 5] := by simpa using Array.mem_of_getElem? ht
        have hall : ([3, 5].all fun u => !Tryd.prog.wantsStandIn u) = true := by kernel_rfl
        exact (show Tryd.prog.wantsStandIn t = false by simpa using List.all_eq_true.1 hall t hm)⟩)
    (by kernel_rfl)
#print axioms shaEnds_holds
end Go.Proofs.YtfjponmpjofbkaaDoor
