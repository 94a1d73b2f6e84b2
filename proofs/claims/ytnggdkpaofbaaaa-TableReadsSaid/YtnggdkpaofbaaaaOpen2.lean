/- What an argument reads as: structs and arrays. -/
import Derived.Test.YtnggdkpaofbaaaaOpen
namespace Go.Proofs.Ytnggdkpaofbaaaa
open Go.RowKit
set_option linter.unusedVariables false

theorem mapM_some_of {α β : Type} {f : α → Option β} : ∀ {l : List α} {ys : List β}, l.mapM f = some ys → ∀ (j : Nat) x, l[j]? = some x → ∃ y, f x = some y ∧ ys[j]? = some y := by
  intro l ys h j x hx
  have hl := mapM_some_length h
  have hj : j < l.length := (List.getElem?_eq_some_iff.1 hx).1
  have hg := mapM_some_get h j x hx
  exact ⟨ys[j]'(by omega), by rw [hg, List.getElem?_eq_getElem (by omega)], List.getElem?_eq_getElem (by omega)⟩

/-- A struct: each field as its type's reading tells. -/
theorem opens_struct {P : Program} {t : TypeId} {fs : Array Field} {β : Type} {S : Rd β} (h : P.underlying t = some (.struct fs))
    (hS : ∀ w cs, cs.length = P.cellsOf t → (∀ (j : Nat) (f : Field), fs.toList[j]? = some f → ∀ (α : Type) (R : Rd α), Opens P f.type R → ∃ x, R w ((cs.drop f.offset).take (P.cellsOf f.type)) x) → ∃ y, S w cs y) : Opens P t S := by
  intro H enc w fuel cs d ps hf hw
  cases fuel with
  | zero => simp [DataW.trod] at hf
  | succ fuel =>
    unfold DataW.trod at hf
    rw [h] at hf
    simp only at hf
    split at hf
    · rename_i hl
      obtain ⟨xs, hm, hx⟩ := Option.map_eq_some_iff.1 hf
      obtain ⟨rfl, rfl⟩ := Prod.mk.inj hx
      refine hS w cs hl fun j f hfm α R hR => ?_
      obtain ⟨hj, rfl⟩ := List.getElem?_eq_some_iff.1 hfm
      obtain ⟨y, hy, hyx⟩ := mapM_some_of hm j _ (List.getElem?_eq_getElem hj)
      refine hR H enc w fuel _ y.1 y.2 hy fun n hn => hw n ?_
      simp only [DataW.weights, h]
      exact DataW.weights_mem_each (j := j) (by rw [List.getElem?_map, List.getElem?_eq_getElem hj]; rfl) (by rw [List.getElem?_map, hyx]; rfl) n hn
    · cases hf
theorem field1 {α : Type} {R : Rd α} {w : World} {cs : List Value} {o n : Nat} {v : Value} (h : ∃ x, R w ((cs.drop o).take n) x) (hn : n = 1) (hv : cs[o]? = some v) : ∃ x, R w [v] x := by
  subst hn
  obtain ⟨ho, rfl⟩ := List.getElem?_eq_some_iff.1 hv
  have e : (cs.drop o).take 1 = [cs[o]] := by rw [List.drop_eq_getElem_cons ho]; rfl
  rw [e] at h
  exact h
end Go.Proofs.Ytnggdkpaofbaaaa
