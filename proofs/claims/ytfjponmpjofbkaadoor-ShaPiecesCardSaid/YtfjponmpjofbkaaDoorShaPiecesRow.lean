/- ShaPieces is true of every input, taking that sha's table reads as its initialiser lays it (tied to the program's text): however bytes are cut into pieces, the digest is that of them whole. -/
import Derived.Test.YtfjponmpjofbkaaDoorCards
import Derived.Test.YtfjponmpjofbkaaDoorTie
import Derived.SevenTiedAt
import Derived.Test.YtfjponmpjofbkaaDoorTab
import Derived.Test.YtfjponmpjofbkaaDoorOpen
import Derived.Test.YtfjponmpjofbkaaDoorShaPieces
namespace Go.Proofs.YtfjponmpjofbkaaDoor.shaPieces
open Go.ChangeShapes Go.WideShapes Go.ChangeAt Go.RowKit
set_option linter.unusedVariables false
theorem own : ownKnob Tryd.prog.godebug = none := by kernel_rfl
theorem laidOut : laidOutB Tryd.prog = true := by kernel_rfl
set_option maxRecDepth 100000 in
theorem lifted (os : Os) (started : os.Started) (H : Type) (enc : TypeId × Value → H) :
    ReturnsInHanded {} Tryd.checked os 7 .any (fun w args => (Rows.shaPiecesSpec.pre enc Tryd.prog Tryd.f7 [] false w args ∧ laidMetH Tryd.prog laidL w) ∧ sizedMet enc Tryd.prog Tryd.f7 (OpenSpec.ofChange Rows.shaPiecesSpec) false w args) (Rows.shaPiecesSpec.post enc Tryd.prog Tryd.f7 false true false false) := by
  refine returnsInHanded_of_change_and (C := Tryd.checked) (X := fun w _ => laidMetH Tryd.prog laidL w) (fun _ _ _ hh h => h.of_heap hh) own started (by kernel_rfl) Tryd.func7
    (ChangeSpec.witness_shaped (enc := enc) (C := Tryd.checked) (os := os) (X := fun w _ => laidMetH Tryd.prog laidL w) false (World.doorLaid Tryd.prog 400 os) #[.slice none 0 0, .slice none 0 0] 8 rfl (World.shaped_of_RefB (by kernel_rfl) (by kernel_rfl)) (by kernel_rfl) (by kernel_rfl) (by kernel_rfl) (door_met os _)) ?_
  intro W base args ds gs before hval0 hW hcnd hsz0 hL _
  have hT := tab_of hL
  have hsz : (DataW.weightsEach Tryd.prog (Tryd.f7.params.toList ++ Rows.shaPiecesSpec.plain.varTypes Tryd.prog) (ds ++ gs)).all (· ≤ reachBytes) = true := hsz0
  have hval : ∀ (j : Nat) t v, Tryd.f7.params[j]? = some t → args[j]? = some v → Value.okWide Tryd.prog W .any base t v := hval0
  have hW' := hW
  obtain ⟨p, q, hA0, hV, rfl, hfz, hnd⟩ := hW
  have hA : DataW.TrodAll enc Tryd.prog W 0 (fun _ => true) true Tryd.f7.params.toList args.toList ds p := hA0
  rw [Tryd.params7] at hA hval hsz
  obtain ⟨v0, vs0, d0, ds0, p0, q0, hargs, rfl, rfl, h0, r0⟩ := trodAll_cons hA
  obtain ⟨v1, vs1, d1, ds1, p1, q1, rfl, rfl, rfl, h1, r1⟩ := trodAll_cons r0
  obtain ⟨rfl, rfl, rfl⟩ := trodAll_nil r1
  obtain rfl : args = #[v0, v1] := by cases args; simp_all
  obtain ⟨rfl, rfl⟩ := trodVars_none hV
  have k0 := h0
  have lt0 := trod_blocks k0
  obtain ⟨x0, o0⟩ := open_arg (opens_slice (sz := 1) (bytes := 1) Tryd.underlying24 (by kernel_rfl) (by kernel_rfl) (opens_u8 Tryd.underlying5)) 0 hsz rfl rfl h0
  obtain ⟨a0, len0, cap0, rfl⟩ := okWide_slice Tryd.underlying24 (hval 0 24 v0 rfl rfl)
  obtain ⟨b0, c0, e0, hl0, hn0, hc0⟩ := bytes_of_rd o0
  obtain ⟨rfl, rfl, rfl⟩ : a0 = b0 ∧ len0 = x0.length ∧ cap0 = c0 := by simpa [Value.cells] using e0
  have k1 := h1
  have lt1 := trod_blocks k1
  obtain ⟨x1, o1⟩ := open_arg (opens_slice (sz := 1) (bytes := 8) Tryd.underlying32 (by kernel_rfl) (by kernel_rfl) (opens_i64 Tryd.underlying3)) 1 hsz rfl rfl h1
  obtain ⟨a1, len1, cap1, rfl⟩ := okWide_slice Tryd.underlying32 (hval 1 32 v1 rfl rfl)
  obtain ⟨b1, c1, e1, hl1, hn1, hc1, hb1⟩ := ints_of_rd o1
  obtain ⟨rfl, rfl, rfl⟩ : a1 = b1 ∧ len1 = x1.length ∧ cap1 = c1 := by simpa [Value.cells] using e1
  clear hA0 hval0 hsz0 hsz
  refine (pieces_calls _ _ x0 _ _ x1 W hc0 hl0 hn0 hc1 hn1 hb1 hT).mono fun e W' ⟨he, bel⟩ => ?_
  subst he
  exact ⟨_, rfl, _, _, _, [], _, [], hW', trodAll_mk1 (shut_bool Tryd.underlying4 _), (trodAll_cons_mk (Below.trod laidOut (by kernel_rfl) (of_decide_eq_true (by kernel_rfl)) k0 bel lt0) (trodAll_cons_mk (Below.trod laidOut (by kernel_rfl) (of_decide_eq_true (by kernel_rfl)) k1 bel lt1) trodAll_mk0)), rfl, bel.frame _, fun h => by cases h⟩
theorem closed : joinedFacts Tryd.prog 7 Tryd.f7 Rows.shaPiecesSpec Rows.shaPiecesRow = true := by
  unfold joinedFacts
  simp only [Bool.and_eq_true]
  repeat' apply And.intro
  all_goals (as_aux_lemma => kernel_rfl)
theorem named : Tryd.pinned.checked.prog.funcNamed Rows.shaPiecesRow.func = some 7 := by kernel_rfl
theorem wrap : Tryd.f7.isWrapper Tryd.pinned.checked.prog Rows.shaPiecesRow.wrapper Rows.shaPiecesRow.mainSum := by unfold Func.isWrapper; first | (rw [if_pos (by decide +kernel)]; kernel_rfl) | (rw [if_neg (by decide +kernel)]; exact ⟨rfl, rfl⟩)
theorem over : Rows.shaPiecesRow.holds Tryd.pinned (OpenSpec.ofChange Rows.shaPiecesSpec) :=
  OpenClaim.holds_of_wide 7 Tryd.f7 rfl rfl rfl rfl rfl rfl rfl ⟨rfl, rfl, rfl, rfl, rfl⟩ rfl rfl rfl rfl rfl named Tryd.func7 closed
    (of_decide_eq_true (by as_aux_lemma => kernel_rfl)) wrap
    (fun os started H enc _ => lifted os started H enc)
end Go.Proofs.YtfjponmpjofbkaaDoor.shaPieces
namespace Go.Proofs.YtfjponmpjofbkaaDoor
/-- The tied card. -/
theorem shaPieces_holds : Rows.ShaPiecesCardSaid :=
  Claim7.holds_tied_plain_at .later [] [.data] true Rows.shaPiecesCard.stood.harness false
    shaPieces.over (fun _ h => by cases h) (by kernel_rfl) (fun _ h => by cases h) shaPieces_row_tie rfl ⟨rfl, rfl⟩ (by kernel_rfl) rfl
    (fun f fn hf hfn => by
      obtain rfl : f = 7 := Option.some.inj ((show Tryd.prog.funcNamed "rootstock/rootstocklaw03.ShaPieces" = some 7 by kernel_rfl).symm.trans hf) |>.symm
      obtain rfl : fn = Tryd.f7 := (Option.some.inj (Tryd.func7.symm.trans hfn)).symm
      exact ⟨by kernel_rfl, fun j t ht => by
        rw [Tryd.params7] at ht
        have hm : t ∈ [24, 32] := by simpa using Array.mem_of_getElem? ht
        have hall : ([24, 32].all fun u => !Tryd.prog.wantsStandIn u) = true := by kernel_rfl
        exact (show Tryd.prog.wantsStandIn t = false by simpa using List.all_eq_true.1 hall t hm)⟩)
    (by kernel_rfl)
#print axioms shaPieces_holds
end Go.Proofs.YtfjponmpjofbkaaDoor
