/- A tree's object and a commit as arguments. -/
import Derived.Test.YtcnhbodemabbdaaDoorQ51
import Derived.Test.YtcnhbodemabbdaaDoorQ24
namespace Go.Proofs.YtcnhbodemabbdaaDoor
open Go.RowKit
set_option linter.unusedVariables false

def rdPair : Rd Pr := fun w cs p => cs = prC p ∧ p.1.size ≤ 140737488351232 ∧ p.2.size ≤ 140737488351232
def rdKid : Rd Kd := fun w cs q => cs = kdC q ∧ q.1.size ≤ 140737488351232 ∧ q.2.length = 33
theorem cells_ostr : Tryd.prog.cellsOf 9 = 1 := by kernel_rfl
theorem cells_oint : Tryd.prog.cellsOf 3 = 1 := by kernel_rfl
theorem cells_pair : Tryd.prog.cellsOf 65 = 2 := by kernel_rfl
theorem cells_kid : Tryd.prog.cellsOf 77 = 34 := by kernel_rfl
theorem cells_pairs : Tryd.prog.cellsOf 22 = 1 := by kernel_rfl
theorem cells_kids : Tryd.prog.cellsOf 71 = 1 := by kernel_rfl
theorem cells_ids : Tryd.prog.cellsOf 37 = 1 := by kernel_rfl
theorem cells_tree : Tryd.prog.cellsOf 73 = 2 := by kernel_rfl
theorem cells_commit : Tryd.prog.cellsOf 42 = 36 := by kernel_rfl
set_option maxRecDepth 100000 in
theorem opens_pair : Opens Tryd.prog 65 rdPair := by
  refine opens_struct Tryd.underlying65 fun w cs hl hf => ?_
  rw [cells_pair] at hl
  match cs, hl with
  | [a, b], _ =>
    obtain ⟨x0, h0, p0⟩ := field1 (v := a) (hf 0 _ rfl ByteArray rdStr (opens_str Tryd.underlying9)) cells_ostr rfl
    obtain ⟨x1, h1, p1⟩ := field1 (v := b) (hf 1 _ rfl ByteArray rdStr (opens_str Tryd.underlying9)) cells_ostr rfl
    simp only [List.cons.injEq, and_true] at h0 h1
    subst h0 h1
    exact ⟨(x0, x1), rfl, p0, p1⟩
set_option maxRecDepth 100000 in
theorem opens_kid : Opens Tryd.prog 77 rdKid := by
  refine opens_struct Tryd.underlying77 fun w cs hl hf => ?_
  rw [cells_kid] at hl
  match cs, hl with
  | a :: cs, hl =>
    obtain ⟨x0, h0, p0⟩ := field1 (v := a) (hf 0 _ rfl ByteArray rdStr (opens_str Tryd.underlying9)) cells_ostr rfl
    obtain ⟨b, h1, h2⟩ := hf 1 _ rfl (List UInt8) rdId opens_id
    have h1' : ((a :: cs).drop 1).take 33 = bv b := by
      have : ((a :: cs).drop 1).take (Tryd.prog.cellsOf 27) = bv b := h1
      rwa [cells_id] at this
    rw [List.drop_succ_cons, List.drop_zero, List.take_of_length_le (by rw [List.length_cons] at hl; omega)] at h1'
    simp only [List.cons.injEq, and_true] at h0
    subst h0 h1'
    exact ⟨(x0, b), rfl, p0, h2⟩
theorem row_of_rd {α : Type} {sz bytes : Nat} {R : Rd α} {C : α → List Value} (ok : α → Prop) (hR : ∀ w cs x, R w cs x → cs = C x ∧ ok x) (hB : 1 ≤ bytes) {w : World} {cs : List Value} {xs : List α} (h : rdSlice sz bytes R w cs xs) :
    ∃ a c, cs = [.slice a xs.length c] ∧ xs.length ≤ c ∧ xs.length * bytes ≤ reachBytes ∧ Row w a sz (xs.map C) ∧ ∀ x ∈ xs, ok x := by
  obtain ⟨a, c, hcs, hl, _, hb, hx⟩ := h
  refine ⟨a, c, hcs, hl, hb, fun i p hp => ?_, fun x hm => ?_⟩
  · rw [List.getElem?_map] at hp
    obtain ⟨y, hy, rfl⟩ := Option.map_eq_some_iff.1 hp
    obtain ⟨ad, es, rfl, hel, hc, hr⟩ := hx i y hy
    obtain ⟨rfl, _⟩ := hR _ _ _ hr
    exact ⟨hel, ad, rfl, hc⟩
  · obtain ⟨i, hi, rfl⟩ := List.getElem_of_mem hm
    obtain ⟨ad, es, _, _, _, hr⟩ := hx i _ (List.getElem?_eq_getElem hi)
    exact (hR _ _ _ hr).2
theorem opens_pairs : Opens Tryd.prog 22 (rdSlice 2 32 rdPair) := opens_slice (sz := 2) (bytes := 32) Tryd.underlying22 (by kernel_rfl) (by kernel_rfl) opens_pair
theorem opens_kids : Opens Tryd.prog 71 (rdSlice 34 56 rdKid) := opens_slice (sz := 34) (bytes := 56) Tryd.underlying71 (by kernel_rfl) (by kernel_rfl) opens_kid
theorem opens_ids : Opens Tryd.prog 37 (rdSlice 33 33 rdId) := opens_slice (sz := 33) (bytes := 33) Tryd.underlying37 (by kernel_rfl) (by kernel_rfl) opens_id
def rdTree : Rd Tr := fun w cs t => ∃ (pa ka : Option Addr) (P K pc kc : Nat), cs = [.slice pa P pc, .slice ka K kc] ∧ TrAt w t pa ka P K pc kc
set_option maxRecDepth 100000 in
theorem opens_tree : Opens Tryd.prog 73 rdTree := by
  refine opens_struct Tryd.underlying73 fun w cs hl hf => ?_
  rw [cells_tree] at hl
  match cs, hl with
  | [a, b], _ =>
    obtain ⟨x0, h0⟩ := field1 (v := a) (hf 0 _ rfl (List Pr) _ opens_pairs) cells_pairs rfl
    obtain ⟨x1, h1⟩ := field1 (v := b) (hf 1 _ rfl (List Kd) _ opens_kids) cells_kids rfl
    obtain ⟨a1, c1, e1, l1, m1, r1, q1⟩ := row_of_rd (C := prC) (fun p => p.1.size ≤ 140737488351232 ∧ p.2.size ≤ 140737488351232) (fun w cs x h => h) (by decide) h0
    obtain ⟨a2, c2, e2, l2, m2, r2, q2⟩ := row_of_rd (C := kdC) (fun q => q.1.size ≤ 140737488351232 ∧ q.2.length = 33) (fun w cs x h => h) (by decide) h1
    simp only [List.cons.injEq, and_true] at e1 e2
    subst e1 e2
    unfold reachBytes at m1 m2
    exact ⟨⟨x0, x1⟩, a1, a2, _, _, c1, c2, rfl, ⟨rfl, rfl, l1, l2, r1, r2, by omega, by omega, q1, q2⟩⟩
def rdCommit : Rd Cm := fun w cs c => ∃ (qa : Option Addr) (Q qc : Nat), cs = cmC c qa Q qc ∧ CmAt w c qa Q qc
set_option maxRecDepth 100000 in
theorem opens_commit : Opens Tryd.prog 42 rdCommit := by
  refine opens_struct Tryd.underlying42 fun w cs hl hf => ?_
  rw [cells_commit] at hl
  obtain ⟨b, h0, hb⟩ := hf 0 _ rfl (List UInt8) rdId opens_id
  have h0' : cs.take 33 = bv b := by
    have : (cs.drop 0).take (Tryd.prog.cellsOf 27) = bv b := h0
    rwa [cells_id, List.drop_zero] at this
  obtain ⟨v1, hv1⟩ : ∃ v, cs[33]? = some v := ⟨_, List.getElem?_eq_getElem (by omega)⟩
  obtain ⟨v2, hv2⟩ : ∃ v, cs[34]? = some v := ⟨_, List.getElem?_eq_getElem (by omega)⟩
  obtain ⟨v3, hv3⟩ : ∃ v, cs[35]? = some v := ⟨_, List.getElem?_eq_getElem (by omega)⟩
  obtain ⟨x1, h1⟩ := field1 (v := v1) (hf 1 _ rfl (List (List UInt8)) _ opens_ids) cells_ids hv1
  obtain ⟨x2, h2, p2⟩ := field1 (v := v2) (hf 2 _ rfl ByteArray rdStr (opens_str Tryd.underlying9)) cells_ostr hv2
  obtain ⟨x3, h3, p3, q3⟩ := field1 (v := v3) (hf 3 _ rfl Int rdI64 (opens_i64 Tryd.underlying3)) cells_oint hv3
  obtain ⟨a1, c1, e1, l1, m1, r1, q1⟩ := row_of_rd (C := bv) (fun p => p.length = 33) (fun w cs x h => h) (by decide) h1
  simp only [List.cons.injEq, and_true] at e1 h2 h3
  subst e1 h2 h3
  unfold reachBytes at m1
  refine ⟨⟨b, x1, x2, x3⟩, a1, x1.length, c1, ?_, ⟨hb, rfl, l1, r1, by omega, q1, p2, p3, q3⟩⟩
  unfold cmC
  rw [← h0']
  have e2 : cs.drop 33 = [.slice a1 x1.length c1, .string x2, .int .i64 x3] := by
    rw [List.drop_eq_getElem_cons (by omega), List.drop_eq_getElem_cons (by omega), List.drop_eq_getElem_cons (by omega), List.drop_of_length_le (by omega)]
    rw [(List.getElem?_eq_some_iff.1 hv1).2, (List.getElem?_eq_some_iff.1 hv2).2, (List.getElem?_eq_some_iff.1 hv3).2]
  show cs = cs.take 33 ++ [.slice a1 x1.length c1, .string x2, .int .i64 x3]
  rw [← e2, List.take_append_drop]
theorem tree_of_rd {w : World} {cs : Array Value} {t : Tr} (h : rdTree w (Value.agg cs).cells.toList t) : ∃ (pa ka : Option Addr) (P K pc kc : Nat), cs = #[.slice pa P pc, .slice ka K kc] ∧ TrAt w t pa ka P K pc kc := by
  obtain ⟨pa, ka, P, K, pc, kc, e, h⟩ := h
  refine ⟨pa, ka, P, K, pc, kc, ?_, h⟩
  apply Array.ext'
  exact e
theorem commit_of_rd {w : World} {cs : Array Value} {c : Cm} (h : rdCommit w (Value.agg cs).cells.toList c) : ∃ (qa : Option Addr) (Q qc : Nat), cs = (cmC c qa Q qc).toArray ∧ CmAt w c qa Q qc := by
  obtain ⟨qa, Q, qc, e, h⟩ := h
  refine ⟨qa, Q, qc, ?_, h⟩
  apply Array.ext'
  rw [List.toList_toArray]
  exact e
end Go.Proofs.YtcnhbodemabbdaaDoor
