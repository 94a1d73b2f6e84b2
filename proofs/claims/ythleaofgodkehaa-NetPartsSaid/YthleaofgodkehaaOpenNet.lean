/- Objects and names as arguments. -/
import Derived.Test.YthleaofgodkehaaOpen3
import Derived.Test.YthleaofgodkehaaPool
namespace Go.Proofs.Ythleaofgodkehaa
open Go.RowKit
set_option linter.unusedVariables false

def rdName : Rd (List UInt8) := fun w cs b => cs = bv b ∧ b.length = 33
def rdObject : Rd Ent1 := fun w cs o => cs = obC o ∧ o.1.length = 33 ∧ o.2.size ≤ 140737488351232
theorem oc_id : Try.prog.cellsOf 38 = 33 := by kernel_rfl
theorem oc_kind : Try.prog.cellsOf 5 = 1 := by kernel_rfl
theorem oc_sum : Try.prog.cellsOf 36 = 32 := by kernel_rfl
theorem oc_str : Try.prog.cellsOf 9 = 1 := by kernel_rfl
theorem oc_object : Try.prog.cellsOf 46 = 34 := by kernel_rfl
theorem opens_name : Opens Try.prog 38 rdName := by
  refine opens_struct Try.underlying38 fun w cs hl hf => ?_
  rw [oc_id] at hl
  obtain ⟨x, h0⟩ := hf 0 _ rfl UInt8 rdU8 (opens_u8 Try.underlying5)
  obtain ⟨xs, h1, h2⟩ := hf 1 _ rfl (List UInt8) (rdArr 32) (opens_arr Try.underlying36 Try.underlying5 oc_kind oc_sum)
  have h0' : (cs.drop 0).take 1 = [.int .u8 x.toNat] := by
    have : (cs.drop 0).take (Try.prog.cellsOf 5) = [.int .u8 x.toNat] := h0
    rwa [oc_kind] at this
  have h1' : (cs.drop 1).take 32 = bv xs := by
    have : (cs.drop 1).take (Try.prog.cellsOf 36) = bv xs := h1
    rwa [oc_sum] at this
  refine ⟨x :: xs, ?_, by rw [List.length_cons, h2]⟩
  rw [List.take_of_length_le (by rw [List.length_drop]; omega)] at h1'
  rw [List.drop_zero] at h0'
  show cs = .int .u8 x.toNat :: bv xs
  rw [← h1']
  conv => lhs; rw [← List.take_append_drop 1 cs, h0']
  rfl
theorem opens_object : Opens Try.prog 46 rdObject := by
  refine opens_struct Try.underlying46 fun w cs hl hf => ?_
  rw [oc_object] at hl
  obtain ⟨b, h0, hb⟩ := hf 0 _ rfl (List UInt8) rdName opens_name
  have h0' : cs.take 33 = bv b := by
    have : (cs.drop 0).take (Try.prog.cellsOf 38) = bv b := h0
    rwa [oc_id, List.drop_zero] at this
  obtain ⟨v1, hv1⟩ : ∃ v, cs[33]? = some v := ⟨_, List.getElem?_eq_getElem (by omega)⟩
  obtain ⟨s, h1, hs⟩ := field1 (v := v1) (hf 1 _ rfl ByteArray rdStr (opens_str Try.underlying9)) oc_str (by show cs[Try.prog.cellsOf 38]? = _; rw [oc_id]; exact hv1)
  simp only [List.cons.injEq, and_true] at h1
  subst h1
  refine ⟨(b, s), ?_, hb, hs⟩
  show cs = bv b ++ [.string s]
  rw [← h0']
  conv => lhs; rw [← List.take_append_drop 33 cs]
  congr 1
  apply List.ext_getElem?
  intro j
  rw [List.getElem?_drop]
  match j with
  | 0 => exact hv1
  | j + 1 =>
    rw [List.getElem?_eq_none (by omega)]
    rfl
theorem row_of_rd_ {α : Type} {sz bytes : Nat} {R : Rd α} {C : α → List Value} (ok : α → Prop) (hR : ∀ w cs x, R w cs x → cs = C x ∧ ok x) (hB : 1 ≤ bytes) {w : World} {cs : List Value} {xs : List α} (h : rdSlice sz bytes R w cs xs) :
    ∃ a c, cs = [.slice a xs.length c] ∧ xs.length ≤ c ∧ xs.length ≤ 140737488351232 ∧ Row w a sz (xs.map C) ∧ ∀ x ∈ xs, ok x := by
  obtain ⟨a, c, hcs, hl, _, hb, hx⟩ := h
  have hb' : xs.length * 1 ≤ xs.length * bytes := Nat.mul_le_mul_left _ hB
  refine ⟨a, c, hcs, hl, by omega, fun i p hp => ?_, fun x hm => ?_⟩
  · rw [List.getElem?_map] at hp
    obtain ⟨y, hy, rfl⟩ := Option.map_eq_some_iff.1 hp
    obtain ⟨ad, es, rfl, hel, hc, hr⟩ := hx i y hy
    obtain ⟨rfl, _⟩ := hR _ _ _ hr
    exact ⟨hel, ad, rfl, hc⟩
  · obtain ⟨i, hi, rfl⟩ := List.getElem_of_mem hm
    obtain ⟨ad, es, _, _, _, hr⟩ := hx i _ (List.getElem?_eq_getElem hi)
    exact (hR _ _ _ hr).2
theorem opens_objs : Opens Try.prog 23 (rdSlice 34 56 rdObject) := opens_slice (sz := 34) (bytes := 56) Try.underlying23 (by kernel_rfl) (by kernel_rfl) opens_object
theorem opens_names : Opens Try.prog 24 (rdSlice 33 33 rdName) := opens_slice (sz := 33) (bytes := 33) Try.underlying24 (by kernel_rfl) (by kernel_rfl) opens_name
theorem objs_of_rd {w : World} {cs : List Value} {xs : List Ent1} (h : rdSlice 34 56 rdObject w cs xs) : ∃ a c, cs = [.slice a xs.length c] ∧ xs.length ≤ c ∧ xs.length ≤ 140737488351232 ∧ Row w a 34 (xs.map obC) ∧ ∀ p ∈ xs, p.1.length = 33 ∧ p.2.size ≤ 140737488351232 :=
  row_of_rd_ (C := obC) (fun p => p.1.length = 33 ∧ p.2.size ≤ 140737488351232) (fun w cs x h => h) (by decide) h
theorem names_of_rd {w : World} {cs : List Value} {xs : List (List UInt8)} (h : rdSlice 33 33 rdName w cs xs) : ∃ a c, cs = [.slice a xs.length c] ∧ xs.length ≤ c ∧ xs.length ≤ 140737488351232 ∧ Row w a 33 (xs.map bv) ∧ ∀ x ∈ xs, x.length = 33 :=
  row_of_rd_ (C := bv) (fun x => x.length = 33) (fun w cs x h => h) (by decide) h
theorem strs_of_rd {w : World} {cs : List Value} {xs : List ByteArray} (h : rdSlice 1 16 rdStr w cs xs) :
    ∃ a c, cs = [.slice a xs.length c] ∧ xs.length ≤ c ∧ xs.length ≤ 140737488351232 ∧ Cells w a (xs.map Value.string) ∧ ∀ x ∈ xs, x.size ≤ 140737488351232 := by
  obtain ⟨a, c, hcs, hl, _, hb, hx⟩ := h
  refine ⟨a, c, hcs, hl, by omega, fun i v hv => ?_, fun x hm => ?_⟩
  · rw [List.getElem?_map] at hv
    obtain ⟨b, hbi, rfl⟩ := Option.map_eq_some_iff.1 hv
    obtain ⟨ad, es, rfl, hel, hc, hr⟩ := hx i b hbi
    obtain ⟨hr, _⟩ := hr
    subst hr
    exact ⟨ad, rfl, by have := hc 0 _ rfl; rwa [Nat.mul_one] at this⟩
  · obtain ⟨i, hi, rfl⟩ := List.getElem_of_mem hm
    obtain ⟨_, _, _, _, _, _, h1⟩ := hx i _ (List.getElem?_eq_getElem hi)
    exact h1
end Go.Proofs.Ythleaofgodkehaa
