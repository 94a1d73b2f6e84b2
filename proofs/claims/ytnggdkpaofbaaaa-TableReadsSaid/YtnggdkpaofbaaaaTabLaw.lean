/- The laws' alive of layer 10. -/
import Derived.Test.YtnggdkpaofbaaaaTabMerge
namespace Go.Proofs.Ytnggdkpaofbaaaa
open Go.RowKit Go.Shelf
set_option linter.unusedVariables false

def gone1 : W3 := (⟨#[97]⟩, ByteArray.empty, true)
def als : List W3 := [(⟨#[97]⟩, ⟨#[49]⟩, false), gone1]
theorem als_tab : tabOf als = [gone1] := by
  have e : als = [] ++ [(⟨#[97]⟩, ⟨#[49]⟩, false)] ++ [gone1] := rfl
  rw [e, tabOf_snoc, tabOf_snoc]
  simp [tabOf, ins, fixW, gone1, klt_irrefl]
theorem als_mrg : mrg true ([((0 : Nat), [gone1])].map (·.2)) = [] := by
  have e : ([((0 : Nat), [gone1])].map (·.2)).flatten = [] ++ [gone1] := rfl
  unfold mrg
  rw [e, tabOf_snoc]
  simp [tabOf, ins, fixW, gone1, keepW]
theorem als_row (w : World) (g : Nat) (h : Blk w g 46 #[.string ⟨#[97]⟩, .string ⟨#[49]⟩, .bool false, .string ⟨#[97]⟩, .string ⟨#[]⟩, .bool true]) : Row w (some ⟨g, 0, none⟩) 3 (als.map wC) := row_of_cells (show Cells w (some ⟨g, 0, none⟩) (als.map wC).flatten from h.cells)
theorem own_one {B : Nat} {w : World} {v : Value} {x : W3} (h : OwnW B w v [x]) : ∃ g c, v = .slice (some ⟨g, 0, none⟩) 1 c ∧ w.cell? ⟨g, 2, none⟩ = some (.bool x.2.2) := by
  obtain ⟨A, c, rfl, _, _, hc⟩ := h.form
  rcases h.2 with ⟨e, e2⟩ | ⟨g, cap, cur, e, _⟩
  · cases e
  · simp only [Value.slice.injEq] at e
    obtain ⟨rfl, _, _⟩ := e
    obtain ⟨a, ha, h2⟩ := hc 2 (.bool x.2.2) rfl
    cases ha
    rw [add_new] at h2
    exact ⟨g, c, rfl, h2⟩
set_option maxRecDepth 50000 in
set_option maxHeartbeats 4000000 in
theorem tab_alive (w : World) : Calls Try.prog 7 #[] w fun e w' => e = .returned (.bool true) ∧ Ext w w' := by
  have d0 : als.length = 2 ∧ 2 ≤ 1000000 ∧ 1 ≤ 1000000 ∧ 0 ≤ 1000000 := by decide
  have e1 : [gone1].length ≤ 1000000 := d0.2.2.1
  have e0 : ([] : List W3).length ≤ 1000000 := d0.2.2.2
  go_enter Try.func7, Try.ntmps7
  have E0 := Lib.hid e0
  have E1 := Lib.hid e1
  clear e0 e1
  go_upto_region 2 with (first
    | (go_at_call 11; have hof := of_calls als (some ⟨w.heap.size, 0, none⟩) 2 2 _ (als_row (w.alloc (.cells #[.string ⟨#[97]⟩, .string ⟨#[49]⟩, .bool false, .string ⟨#[97]⟩, .string ⟨#[]⟩, .bool true] 46)) w.heap.size (Blk.new w _ _)) d0.1 d0.2.1; (with_reducible refine hof.mono ?_); rintro e w1 ⟨p, rfl, hp, htab, hx1⟩))
  rw [als_tab] at htab
  have hx01 : Ext w w1 := ((Ext.refl w).alloc _).trans hx1
  have ht0 : TabAt 0 w1 p [gone1] := htab.lower (Nat.zero_le _)
  have HT := Lib.hid ht0
  clear hof htab hp ht0 hx1
  have hm0 : ∀ t ∈ [((p : Nat), [gone1])], TabAt 0 w1 t.1 t.2 := fun t ht => by
    rw [List.mem_singleton] at ht
    subst ht
    exact HT.out
  have HM0 := Lib.hid hm0
  have hmr : mrg true ([((p : Nat), [gone1])].map (·.2)) = [] := als_mrg
  have HMR := Lib.hid hmr
  have hfl : ([((p : Nat), [gone1])].map (·.2)).flatten.length ≤ 1000000 := d0.2.2.1
  have HFL := Lib.hid hfl
  clear hm0 hmr hfl
  go_wp2_with (first
    | (go_at_call 20; ((with_reducible refine (all_calls 0 p [gone1] w1 HT.out E1.out).mono ?_); rintro e w2 ⟨v2, rfl, ho2, hx2⟩; obtain ⟨g2, c2, rfl, _⟩ := own_one ho2))
    | (go_at_call 20; ((with_reducible refine (all_calls 0 p [gone1] w2 (HT.out.ext hx2) E1.out).mono ?_); rintro e w3 ⟨v3, rfl, ho3, hx3⟩; obtain ⟨g3, c3, rfl, hc3⟩ := own_one ho3; have hx23 := hx2.trans hx3; have hc3' : w3.cell? ⟨g3, 2, none⟩ = some (.bool true) := hc3))
    | (go_at_call 27; have hmg := merge_calls true [(p, [gone1])] (some ⟨w3.heap.size, 0, none⟩) 1 1 (w3.alloc (.cells #[.pointer (some ⟨p, 0, none⟩)] 29)) (Blk.new w3 29 #[.pointer (some ⟨p, 0, none⟩)]).cells rfl (fun t ht => (HM0.out t ht).ext (hx23.alloc _)) HFL.out d0.2.2.1; (with_reducible refine hmg.mono ?_); rintro e w4 ⟨p2, rfl, hp2, ht2, hx4⟩; rw [HMR.out] at ht2)
    | (go_at_call 20; ((with_reducible refine (all_calls _ p2 [] w4 ht2 E0.out).mono ?_); rintro e w5 ⟨v5, rfl, ho5, hx5⟩; obtain ⟨A5, c5, rfl, _⟩ := ho5.form)))
  skip
  go_ret
  exact ⟨rfl, hx01.trans (hx23.trans (((Ext.refl w3).alloc _).trans (hx4.trans hx5)))⟩
end Go.Proofs.Ytnggdkpaofbaaaa
