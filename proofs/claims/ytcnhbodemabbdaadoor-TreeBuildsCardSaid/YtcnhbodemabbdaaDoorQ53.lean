/- TreeBuilds: Good and Build answer what the document says, of all pairs and hashes. -/
import Derived.Test.YtcnhbodemabbdaaDoorCards
import Derived.Test.YtcnhbodemabbdaaDoorTie
import Derived.SevenTiedAt
import Derived.Test.YtcnhbodemabbdaaDoorQ06
import Derived.Test.YtcnhbodemabbdaaDoorQ07
import Derived.Test.YtcnhbodemabbdaaDoorQ49
import Derived.Test.YtcnhbodemabbdaaDoorQ52
namespace Go.Proofs.YtcnhbodemabbdaaDoor.treeBuilds
open Go.ChangeShapes Go.WideShapes Go.ChangeAt Go.RowKit
set_option linter.unusedVariables false
theorem own : ownKnob Tryd.prog.godebug = none := by kernel_rfl
theorem laidOut : laidOutB Tryd.prog = true := by kernel_rfl
set_option maxRecDepth 100000 in
theorem lifted (os : Os) (started : os.Started) (H : Type) (enc : TypeId × Value → H) :
    ReturnsInHanded {} Tryd.checked os 3 .any (fun w args => (Rows.treeBuildsSpec.pre enc Tryd.prog Tryd.f3 [] false w args ∧ laidMetH Tryd.prog laidL w) ∧ sizedMet enc Tryd.prog Tryd.f3 (OpenSpec.ofChange Rows.treeBuildsSpec) false w args) (Rows.treeBuildsSpec.post enc Tryd.prog Tryd.f3 false true false false) := by
  refine returnsInHanded_of_change_and (C := Tryd.checked) (X := fun w _ => laidMetH Tryd.prog laidL w) (fun _ _ _ hh h => h.of_heap hh) own started (by kernel_rfl) Tryd.func3
    (ChangeSpec.witness_shaped (enc := enc) (C := Tryd.checked) (os := os) (X := fun w _ => laidMetH Tryd.prog laidL w) false (World.doorLaid Tryd.prog 400 os) #[.int .u8 0, .slice none 0 0] 8 rfl (World.shaped_of_RefB (by kernel_rfl) (by kernel_rfl)) (by kernel_rfl) (by kernel_rfl) (by kernel_rfl) (door_met os _)) ?_
  intro W base args ds gs before hval0 hW hcnd hsz0 hL _
  have hT := tab_of hL
  have hsz : (DataW.weightsEach Tryd.prog (Tryd.f3.params.toList ++ Rows.treeBuildsSpec.plain.varTypes Tryd.prog) (ds ++ gs)).all (· ≤ reachBytes) = true := hsz0
  have hval : ∀ (j : Nat) t v, Tryd.f3.params[j]? = some t → args[j]? = some v → Value.okWide Tryd.prog W .any base t v := hval0
  have hW' := hW
  obtain ⟨p, q, hA0, hV, rfl, hfz, hnd⟩ := hW
  have hA : DataW.TrodAll enc Tryd.prog W 0 (fun _ => true) true Tryd.f3.params.toList args.toList ds p := hA0
  rw [Tryd.params3] at hA hval hsz
  obtain ⟨v0, vs0, d0, ds0, p0, q0, hargs, rfl, rfl, h0, r0⟩ := trodAll_cons hA
  obtain ⟨v1, vs1, d1, ds1, p1, q1, rfl, rfl, rfl, h1, r1⟩ := trodAll_cons r0
  obtain ⟨rfl, rfl, rfl⟩ := trodAll_nil r1
  obtain rfl : args = #[v0, v1] := by cases args; simp_all
  obtain ⟨rfl, rfl⟩ := trodVars_none hV
  have k0 := h0
  have lt0 := trod_blocks k0
  obtain ⟨x0, o0⟩ := open_arg (opens_u8 Tryd.underlying5) 0 hsz rfl rfl h0
  obtain ⟨a0, rfl, _, _, _⟩ := open_int Tryd.underlying5 (hval 0 5 v0 rfl rfl) h0
  obtain rfl : a0 = x0.toNat := by simpa [rdU64, rdU8, Value.cells] using o0
  have k1 := h1
  have lt1 := trod_blocks k1
  obtain ⟨x1, o1⟩ := open_arg (opens_pairs) 1 hsz rfl rfl h1
  obtain ⟨a1, len1, cap1, rfl⟩ := okWide_slice Tryd.underlying22 (hval 1 22 v1 rfl rfl)
  obtain ⟨b1, c1, e1, hl1, hn1, hr1, hx1⟩ := row_of_rd (fun p : Pr => p.1.size ≤ 140737488351232 ∧ p.2.size ≤ 140737488351232) (fun _ _ _ h => h) (by decide) o1
  obtain ⟨rfl, rfl, rfl⟩ : a1 = b1 ∧ len1 = x1.length ∧ cap1 = c1 := by simpa [Value.cells] using e1
  clear hA0 hval0 hsz0 hsz
  refine (treeBuilds_calls x0 x1 _ _ _ W hr1 rfl hl1 (by have h := hn1; unfold reachBytes at h; omega) hx1 hT).mono fun e W' ⟨he, bel⟩ => ?_
  subst he
  exact ⟨_, rfl, _, _, _, [], _, [], hW', trodAll_mk1 (shut_bool Tryd.underlying4 _), (trodAll_cons_mk (Below.trod laidOut (by kernel_rfl) (of_decide_eq_true (by kernel_rfl)) k0 bel lt0) (trodAll_cons_mk (Below.trod laidOut (by kernel_rfl) (of_decide_eq_true (by kernel_rfl)) k1 bel lt1) trodAll_mk0)), rfl, bel.frame _, fun h => by cases h⟩
set_option maxHeartbeats 4000000 in
theorem closed : joinedFacts Tryd.prog 3 Tryd.f3 Rows.treeBuildsSpec Rows.treeBuildsRow = true := by
  unfold joinedFacts
  simp only [Bool.and_eq_true]
  repeat' apply And.intro
  all_goals (as_aux_lemma => kernel_rfl)
theorem named : Tryd.pinned.checked.prog.funcNamed Rows.treeBuildsRow.func = some 3 := by kernel_rfl
theorem wrap : Tryd.f3.isWrapper Tryd.pinned.checked.prog Rows.treeBuildsRow.wrapper Rows.treeBuildsRow.mainSum := by unfold Func.isWrapper; first | (rw [if_pos (by decide +kernel)]; kernel_rfl) | (rw [if_neg (by decide +kernel)]; exact ⟨rfl, rfl⟩)
theorem over : Rows.treeBuildsRow.holds Tryd.pinned (OpenSpec.ofChange Rows.treeBuildsSpec) :=
  OpenClaim.holds_of_wide 3 Tryd.f3 rfl rfl rfl rfl rfl rfl rfl ⟨rfl, rfl, rfl, rfl, rfl⟩ rfl rfl rfl rfl rfl named Tryd.func3 closed
    (of_decide_eq_true (by as_aux_lemma => kernel_rfl)) wrap
    (fun os started H enc _ => lifted os started H enc)
end Go.Proofs.YtcnhbodemabbdaaDoor.treeBuilds
namespace Go.Proofs.YtcnhbodemabbdaaDoor
/-- The tied card. -/
theorem treeBuilds_holds : Rows.TreeBuildsCardSaid :=
  Claim7.holds_tied_plain_at .later [] [.data] true Rows.treeBuildsCard.stood.harness false
    treeBuilds.over (fun _ h => by cases h) (by kernel_rfl) (fun _ h => by cases h) treeBuilds_row_tie rfl ⟨rfl, rfl⟩ (by kernel_rfl) rfl
    (fun f fn hf hfn => by
      obtain rfl : f = 3 := Option.some.inj ((show Tryd.prog.funcNamed "rootstock/rootstocklaw16.TreeBuilds" = some 3 by kernel_rfl).symm.trans hf) |>.symm
      obtain rfl : fn = Tryd.f3 := (Option.some.inj (Tryd.func3.symm.trans hfn)).symm
      exact ⟨by kernel_rfl, fun j t ht => by
        rw [Tryd.params3] at ht
        have hm : t ∈ [5, 22] := by simpa using Array.mem_of_getElem? ht
        have hall : ([5, 22].all fun u => !Tryd.prog.wantsStandIn u) = true := by kernel_rfl
        exact (show Tryd.prog.wantsStandIn t = false by simpa using List.all_eq_true.1 hall t hm)⟩)
    (by kernel_rfl)
#print axioms treeBuilds_holds
end Go.Proofs.YtcnhbodemabbdaaDoor
