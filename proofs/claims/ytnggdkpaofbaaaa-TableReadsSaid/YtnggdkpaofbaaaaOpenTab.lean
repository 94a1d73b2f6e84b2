/- Writes as arguments. -/
import Derived.Test.YtnggdkpaofbaaaaOpen2
import Derived.Test.YtnggdkpaofbaaaaTabOf
namespace Go.Proofs.Ytnggdkpaofbaaaa
open Go.RowKit
set_option linter.unusedVariables false

def okW (x : W3) : Prop := x.1.size ≤ 140737488351232 ∧ x.2.1.size ≤ 140737488351232
def rdWrite : Rd W3 := fun w cs x => cs = wC x ∧ okW x
theorem oc_wstr : Try.prog.cellsOf 9 = 1 := by kernel_rfl
theorem oc_wbool : Try.prog.cellsOf 4 = 1 := by kernel_rfl
theorem oc_write : Try.prog.cellsOf 46 = 3 := by kernel_rfl
theorem opens_write : Opens Try.prog 46 rdWrite := by
  refine opens_struct Try.underlying46 fun w cs hl hf => ?_
  rw [oc_write] at hl
  obtain ⟨v0, h0⟩ : ∃ v, cs[0]? = some v := ⟨_, List.getElem?_eq_getElem (by omega)⟩
  obtain ⟨v1, h1⟩ : ∃ v, cs[1]? = some v := ⟨_, List.getElem?_eq_getElem (by omega)⟩
  obtain ⟨v2, h2⟩ : ∃ v, cs[2]? = some v := ⟨_, List.getElem?_eq_getElem (by omega)⟩
  obtain ⟨s0, e0, z0⟩ := field1 (v := v0) (hf 0 _ rfl ByteArray rdStr (opens_str Try.underlying9)) oc_wstr h0
  obtain ⟨s1, e1, z1⟩ := field1 (v := v1) (hf 1 _ rfl ByteArray rdStr (opens_str Try.underlying9)) oc_wstr h1
  obtain ⟨s2, e2⟩ := field1 (v := v2) (hf 2 _ rfl Bool rdBool (opens_bool Try.underlying4)) oc_wbool h2
  simp only [rdBool, List.cons.injEq, and_true] at e0 e1 e2
  subst e0 e1 e2
  refine ⟨(s0, s1, s2), ?_, z0, z1⟩
  rcases cs with _ | ⟨x, _ | ⟨y, _ | ⟨z, _ | ⟨u, cs⟩⟩⟩⟩
  · cases hl
  · cases hl
  · cases hl
  · cases h0
    cases h1
    cases h2
    rfl
  · simp at hl
theorem row_of_rdT {α : Type} {sz bytes : Nat} {R : Rd α} {C : α → List Value} (ok : α → Prop) (hR : ∀ w cs x, R w cs x → cs = C x ∧ ok x) (hB : 1 ≤ bytes) {w : World} {cs : List Value} {xs : List α} (h : rdSlice sz bytes R w cs xs) :
    ∃ a c, cs = [.slice a xs.length c] ∧ xs.length ≤ c ∧ xs.length ≤ 140737488351232 ∧ Row w a sz (xs.map C) ∧ ∀ x ∈ xs, ok x := by
  obtain ⟨a, c, hcs, hl, _, hb, hx⟩ := h
  have hb' : xs.length * 1 ≤ xs.length * bytes := Nat.mul_le_mul_left _ hB
  refine ⟨a, c, hcs, hl, by omega, fun i p hp => ?_, fun x hm => ?_⟩
  · rw [List.getElem?_map] at hp
    obtain ⟨y, hy, rfl⟩ := Option.map_eq_some_iff.1 hp
    obtain ⟨ad, es, rfl, hel, hc, hr⟩ := hx i y hy
    obtain ⟨rfl, _⟩ := hR _ _ _ hr
    exact ⟨hel, ad, rfl, hc⟩
  · obtain ⟨i, hi, rfl⟩ := List.getElem_of_mem hm
    obtain ⟨ad, es, _, _, _, hr⟩ := hx i _ (List.getElem?_eq_getElem hi)
    exact (hR _ _ _ hr).2
theorem opens_writes : Opens Try.prog 22 (rdSlice 3 40 rdWrite) := opens_slice (sz := 3) (bytes := 40) Try.underlying22 (by kernel_rfl) (by kernel_rfl) opens_write
theorem writes_of_rd {w : World} {cs : List Value} {xs : List W3} (h : rdSlice 3 40 rdWrite w cs xs) : ∃ a c, cs = [.slice a xs.length c] ∧ xs.length ≤ c ∧ xs.length ≤ 140737488351232 ∧ Row w a 3 (xs.map wC) ∧ ∀ x ∈ xs, okW x :=
  row_of_rdT (C := wC) okW (fun w cs x h => h) (by decide) h
end Go.Proofs.Ytnggdkpaofbaaaa
