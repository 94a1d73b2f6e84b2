/- What an argument reads as: structs and arrays. -/
import Derived.Test.YtcnhbodemabbdaaDoorQ07
namespace Go.Proofs.YtcnhbodemabbdaaDoor
open Go.RowKit
set_option linter.unusedVariables false

theorem mapM_some_of {α β : Type} {f : α → Option β} : ∀ {l : List α} {ys : List β}, l.mapM f = some ys → ∀ (j : Nat) x, l[j]? = some x → ∃ y, f x = some y ∧ ys[j]? = some y := by
  intro l ys h j x hx
  have hl := mapM_some_length h
  have hj : j < l.length := (List.getElem?_eq_some_iff.1 hx).1
  have hg := mapM_some_get h j x hx
  exact ⟨ys[j]'(by omega), by rw [hg, List.getElem?_eq_getElem (by omega)], List.getElem?_eq_getElem (by omega)⟩

/-- A struct: each field as its type's reading tells. -/
theorem opens_struct {P : Program} {t : TypeId} {fs : Array Field} {β : Type} {S : Rd β} (h : P.underlying t = some (.struct fs))
    (hS : ∀ w cs, cs.length = P.cellsOf t → (∀ (j : Nat) (f : Field), fs.toList[j]? = some f → ∀ (α : Type) (R : Rd α), Opens P f.type R → ∃ x, R w ((cs.drop f.offset).take (P.cellsOf f.type)) x) → ∃ y, S w cs y) : Opens P t S := by
  intro H enc w fuel cs d ps hf hw
  cases fuel with
  | zero => simp [DataW.trod] at hf
  | succ fuel =>
    unfold DataW.trod at hf
    rw [h] at hf
    simp only at hf
    split at hf
    · rename_i hl
      obtain ⟨xs, hm, hx⟩ := Option.map_eq_some_iff.1 hf
      obtain ⟨rfl, rfl⟩ := Prod.mk.inj hx
      refine hS w cs hl fun j f hfm α R hR => ?_
      obtain ⟨hj, rfl⟩ := List.getElem?_eq_some_iff.1 hfm
      obtain ⟨y, hy, hyx⟩ := mapM_some_of hm j _ (List.getElem?_eq_getElem hj)
      refine hR H enc w fuel _ y.1 y.2 hy fun n hn => hw n ?_
      simp only [DataW.weights, h]
      exact DataW.weights_mem_each (j := j) (by rw [List.getElem?_map, List.getElem?_eq_getElem hj]; rfl) (by rw [List.getElem?_map, hyx]; rfl) n hn
    · cases hf
theorem field1 {α : Type} {R : Rd α} {w : World} {cs : List Value} {o n : Nat} {v : Value} (h : ∃ x, R w ((cs.drop o).take n) x) (hn : n = 1) (hv : cs[o]? = some v) : ∃ x, R w [v] x := by
  subst hn
  obtain ⟨ho, rfl⟩ := List.getElem?_eq_some_iff.1 hv
  have e : (cs.drop o).take 1 = [cs[o]] := by rw [List.drop_eq_getElem_cons ho]; rfl
  rw [e] at h
  exact h
end Go.Proofs.YtcnhbodemabbdaaDoor
/- What an argument reads as: arrays; a row of bytes that is an array. -/
namespace Go.Proofs.YtcnhbodemabbdaaDoor
open Go.RowKit
set_option linter.unusedVariables false

theorem weightsAll_mem' {H : Type} {P : Program} {e : TypeId} : ∀ (xs : List (DataW H)) (x : DataW H), x ∈ xs → ∀ m ∈ x.weights P e, m ∈ DataW.weightsAll P e xs
  | [], _, hx, _, _ => by cases hx
  | d :: r, x, hx, m, hm => by
    rw [DataW.weightsAll]
    rcases List.mem_cons.1 hx with rfl | hx
    · exact List.mem_append_left _ hm
    · exact List.mem_append_right _ (weightsAll_mem' r x hx m hm)
/-- An array: each part as its type's reading tells. -/
theorem opens_array {P : Program} {t e : TypeId} {n : Nat} {α β : Type} {R : Rd α} {S : Rd β} (h : P.underlying t = some (.array n e)) (hR : Opens P e R)
    (hS : ∀ w cs, cs.length = P.cellsOf t → (∀ i, i < n → ∃ x, R w ((cs.drop (i * P.cellsOf e)).take (P.cellsOf e)) x) → ∃ y, S w cs y) : Opens P t S := by
  intro H enc w fuel cs d ps hf hwt
  cases fuel with
  | zero => simp [DataW.trod] at hf
  | succ fuel =>
    unfold DataW.trod at hf
    rw [h] at hf
    simp only at hf
    split at hf
    · rename_i hl
      obtain ⟨xs, hm, hx⟩ := Option.map_eq_some_iff.1 hf
      obtain ⟨rfl, rfl⟩ := Prod.mk.inj hx
      refine hS w cs hl fun i hi => ?_
      obtain ⟨y, hy, hyx⟩ := mapM_some_of hm i i (by rw [List.getElem?_range hi])
      refine hR H enc w fuel _ y.1 y.2 hy fun m hm' => hwt m ?_
      rw [DataW.weights, h]
      refine weightsAll_mem' _ y.1 ?_ m hm'
      exact List.mem_map.2 ⟨y, List.mem_of_getElem? hyx, rfl⟩
    · cases hf
/-- Cells that are all bytes. -/
theorem bytes_of_cells : ∀ (cs : List Value), (∀ v ∈ cs, ∃ x : UInt8, v = .int .u8 x.toNat) → ∃ xs : List UInt8, cs = bv xs
  | [], _ => ⟨[], rfl⟩
  | v :: cs, h => by
    obtain ⟨x, rfl⟩ := h v (List.mem_cons_self ..)
    obtain ⟨xs, rfl⟩ := bytes_of_cells cs fun u hu => h u (List.mem_cons_of_mem _ hu)
    exact ⟨x :: xs, rfl⟩
def rdArr (n : Nat) : Rd (List UInt8) := fun w cs xs => cs = bv xs ∧ xs.length = n
theorem opens_arr {P : Program} {t e : TypeId} {n : Nat} (h : P.underlying t = some (.array n e)) (he : P.underlying e = some (.int .u8)) (hsz : P.cellsOf e = 1) (hct : P.cellsOf t = n) : Opens P t (rdArr n) := by
  refine opens_array h (opens_u8 he) fun w cs hl hx => ?_
  rw [hct] at hl
  obtain ⟨xs, hxs⟩ := bytes_of_cells cs fun v hv => by
    obtain ⟨i, hi, rfl⟩ := List.getElem_of_mem hv
    obtain ⟨x, hx⟩ := hx i (by omega)
    rw [hsz, Nat.mul_one, List.drop_eq_getElem_cons hi] at hx
    have hx' : cs[i] :: (cs.drop (i + 1)).take 0 = [.int .u8 x.toNat] := hx
    injection hx' with h1 _
    exact ⟨x, h1⟩
  refine ⟨xs, hxs, ?_⟩
  have := congrArg List.length hxs
  rw [hl] at this
  simpa [bv] using this.symm
end Go.Proofs.YtcnhbodemabbdaaDoor
