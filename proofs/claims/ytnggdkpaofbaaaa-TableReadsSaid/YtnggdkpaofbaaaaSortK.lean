/- A row of structs of the call's own, sorted by the library: between ownsRow and the shelf's words. No program here. -/
import Derived.Test.YtnggdkpaofbaaaaAppend
import Derived.Shelf.SlSortCmp.WholeK
namespace Go.Proofs.Ytnggdkpaofbaaaa
open Go.RowKit Go.Sort Go.Shelf
set_option linter.unusedVariables false

theorem flat_idx {α : Type} (C : α → List Value) (k : Nat) (hk : ∀ x, (C x).length = k) (hk0 : 0 < k) : ∀ (l : List α) (t : Nat), t < l.length * k → ∃ x, l[t / k]? = some x ∧ ((l.map C).flatten)[t]? = (C x)[t % k]?
  | [], t, h => by simp at h
  | a :: l, t, h => by
    rw [List.map_cons, List.flatten_cons]
    by_cases ht : t < k
    · refine ⟨a, by rw [Nat.div_eq_of_lt ht]; rfl, ?_⟩
      rw [List.getElem?_append_left (by rw [hk]; exact ht), Nat.mod_eq_of_lt ht]
    · have hd : t / k = (t - k) / k + 1 := by rw [Nat.div_eq_sub_div hk0 (by omega)]
      have hm : t % k = (t - k) % k := by rw [Nat.mod_eq_sub_mod (by omega)]
      rw [List.length_cons, Nat.succ_mul] at h
      obtain ⟨x, h1, h2⟩ := flat_idx C k hk hk0 l (t - k) (by omega)
      refine ⟨x, by rw [hd, List.getElem?_cons_succ]; exact h1, ?_⟩
      rw [List.getElem?_append_right (by rw [hk]; omega), hk, h2, hm]
theorem flatK_list {α : Type} [Inhabited α] (C : α → List Value) (k : Nat) (hk : ∀ x, (C x).length = k) (hk0 : 0 < k) (l : List α) : (flatK C k l.toArray).toList = (l.map C).flatten := by
  have hlen : ((l.map C).flatten).length = l.length * k := by
    induction l with
    | nil => simp
    | cons a l ih => rw [List.map_cons, List.flatten_cons, List.length_append, ih, hk, List.length_cons, Nat.succ_mul, Nat.add_comm]
  apply List.ext_getElem?
  intro t
  by_cases ht : t < l.length * k
  · obtain ⟨x, h1, h2⟩ := flat_idx C k hk hk0 l t ht
    rw [h2]
    have hx : l.toArray[t / k]! = x := by
      simp only [List.getElem!_toArray]
      rw [List.getElem!_eq_getElem?_getD, h1]
      rfl
    have hm : t % k < (C x).length := by rw [hk]; exact Nat.mod_lt _ hk0
    have hsz : t < (flatK C k l.toArray).size := by rw [size_flatK]; simpa using ht
    rw [Array.getElem?_toList, Array.getElem?_eq_getElem hsz, ← getElem!_pos (flatK C k l.toArray) t hsz, get_flatK C k l.toArray t (by simpa using ht), hx, List.getElem?_eq_getElem hm, getElem!_pos (C x) _ hm]
  · rw [List.getElem?_eq_none (by rw [Array.length_toList, size_flatK]; simpa using Nat.le_of_not_lt ht), List.getElem?_eq_none (by rw [hlen]; omega)]
theorem holdsK_own {α : Type} [Inhabited α] {C : α → List Value} {k : Nat} (hk : ∀ x, (C x).length = k) (hk0 : 0 < k) {w : World} {B g n c : Nat} {e : TypeId} {l : List α} (h : w.ownsRow B e k (.slice (some ⟨g, 0, none⟩) n c) n (l.map C).flatten) (hn : l.length = n) : HoldsK C k w g 0 l.toArray := by
  rcases h.2 with ⟨e1, _⟩ | ⟨g1, cap, cur, e1, hb, hgg, h1, h2, h3, ht⟩
  · cases e1
  · simp only [Value.slice.injEq, Option.some.injEq, Addr.mk.injEq, and_true, true_and] at e1
    obtain ⟨rfl, rfl⟩ := e1
    intro j hj
    rw [size_flatK] at hj
    have hj' : j < l.length * k := by simpa using hj
    have hjn : j < n * k := by rw [← hn]; exact hj'
    refine ⟨?_, by simp [World.frozen?, hgg]⟩
    have h4 : (cur.toList.take (n * k))[j]? = ((l.map C).flatten)[j]? := by rw [ht]
    rw [List.getElem?_take_of_lt hjn, Array.getElem?_toList, ← flatK_list C k hk hk0 l, Array.getElem?_toList, Array.getElem?_eq_getElem (xs := flatK C k l.toArray) (by rw [size_flatK]; exact hj)] at h4
    rw [Nat.zero_add, getElem!_pos (flatK C k l.toArray) j (by rw [size_flatK]; exact hj)]
    simp only [World.cell?, hgg, id]
    simpa using h4
theorem sorted_own {α : Type} [Inhabited α] {C : α → List Value} {k : Nat} (hk : ∀ x, (C x).length = k) (hk0 : 0 < k) {w : World} {B g n c m : Nat} {e : TypeId} {l : List α} {os : Array Obj} (h : w.ownsRow B e k (.slice (some ⟨g, 0, none⟩) n c) n (l.map C).flatten) {d : Array α} (hd : d.size = n) :
    (sortWorldK C k w g 0 m d os).ownsRow B e k (.slice (some ⟨g, 0, none⟩) n c) n (d.toList.map C).flatten ∧ w.grownBy (sortWorldK C k w g 0 m d os) (some g) := by
  rcases h.2 with ⟨e1, _⟩ | ⟨g1, cap, cur, e1, hb, hgg, h1, h2, h3, ht⟩
  · cases e1
  · simp only [Value.slice.injEq, Option.some.injEq, Addr.mk.injEq, and_true, true_and] at e1
    obtain ⟨rfl, rfl⟩ := e1
    have hfl := flatK_list C k hk hk0 d.toList
    have hda : d.toList.toArray = d := by simp
    rw [hda] at hfl
    have hfs : (flatK C k d).size = n * k := by rw [size_flatK, hd]
    have hlen : (d.toList.map C).flatten.length = n * k := by rw [← hfl, Array.length_toList, hfs]
    have hg : g < w.heap.size := (Array.getElem?_eq_some_iff.1 hgg).1
    have hheap : (sortWorldK C k w g 0 m d os).heap[g]? = some (.cells (putCells id 0 (flatK C k d) cur) e (0, 0)) := by
      unfold sortWorldK putRowK
      rw [heap_grow_old _ _ (by simpa [putRow, mapBlock, Sort.ahead] using hg)]
      simp [putRow, mapBlock, Sort.ahead, Array.getElem?_modify, hgg, onCells]
    have hcur : n * k ≤ cur.size := by rw [h3]; exact Nat.mul_le_mul_right _ h1
    refine ⟨⟨hlen, .inr ⟨g, c, _, rfl, hb, hheap, h1, h2, by simp [putCells, h3], ?_⟩⟩, rfl, rfl, rfl, by simp [sortWorldK, putRowK, putRow, mapBlock, Sort.ahead, grow], fun j hj hne => ?_⟩
    · rw [← hfl]
      apply List.ext_getElem?
      intro j
      by_cases hj : j < n * k
      · rw [List.getElem?_take_of_lt hj, Array.getElem?_toList, Array.getElem?_toList]
        simp [putCells, hfs, hj, show j < cur.size by omega]
      · rw [List.getElem?_take_eq_none (by omega), List.getElem?_eq_none (by rw [Array.length_toList, hfs]; omega)]
    · unfold sortWorldK putRowK
      rw [heap_grow_old _ _ (by simpa [putRow, mapBlock, Sort.ahead] using hj)]
      have : g ≠ j := fun e => hne (by rw [e])
      simp [putRow, mapBlock, Sort.ahead, Array.getElem?_modify, this]
end Go.Proofs.Ytnggdkpaofbaaaa
