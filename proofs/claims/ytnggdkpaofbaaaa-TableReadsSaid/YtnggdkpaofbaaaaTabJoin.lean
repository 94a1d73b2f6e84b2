/- Tables put together: the plain laws. -/
import Derived.Test.YtnggdkpaofbaaaaTabMerge
namespace Go.Proofs.Ytnggdkpaofbaaaa
set_option linter.unusedVariables false

theorem fixW_fixW (w : W3) : fixW (fixW w) = fixW w := by
  obtain ⟨a, b, c⟩ := w
  cases c <;> rfl
def Fixed (l : List W3) : Prop := ∀ x ∈ l, fixW x = x
theorem tabOf_fixed (l : List W3) : Fixed (tabOf l) := by
  refine rev_ind (P := fun l => Fixed (tabOf l)) (fun x h => by cases h) (fun l w ih x hx => ?_) l
  rw [tabOf_snoc, mem_ins] at hx
  rcases hx with rfl | ⟨h, _⟩
  · exact fixW_fixW w
  · exact ih x h
theorem ins_last (w : W3) : ∀ l : List W3, (∀ x ∈ l, klt x.1 w.1 = true) → ins w false l = l ++ [w]
  | [], _ => rfl
  | x :: l, h => by
    rw [ins_lt l (h x (List.mem_cons_self ..)), ins_last w l (fun y hy => h y (List.mem_cons_of_mem _ hy))]
    rfl
theorem tabOf_self (l : List W3) : SortedW l → Fixed l → tabOf l = l := by
  refine rev_ind (P := fun l => SortedW l → Fixed l → tabOf l = l) (fun _ _ => rfl) (fun l w ih hs hf => ?_) l
  obtain ⟨h1, _, h2⟩ := List.pairwise_append.1 hs
  rw [tabOf_snoc, ih h1 (fun x hx => hf x (List.mem_append_left _ hx)), hf w (by simp)]
  exact ins_last w l (fun x hx => h2 x hx w (by simp))
theorem tabOf_tabOf (l : List W3) : tabOf (tabOf l) = tabOf l := tabOf_self _ (tabOf_sorted l) (tabOf_fixed l)
theorem lookW_mem {k : ByteArray} {l : List W3} {x : W3} (h : lookW k l = some x) : x ∈ l ∧ x.1 = k := by
  unfold lookW at h
  exact ⟨List.mem_of_find?_eq_some h, by simpa using List.find?_some h⟩
theorem lookW_sorted {l : List W3} (hs : SortedW l) {x : W3} (h : x ∈ l) : lookW x.1 l = some x := by
  induction l with
  | nil => cases h
  | cons a l ih =>
    obtain ⟨h1, h2⟩ := List.pairwise_cons.1 hs
    unfold lookW
    rcases List.mem_cons.1 h with rfl | h
    · simp
    · have hne : a.1 ≠ x.1 := klt_ne (h1 x h)
      have := ih h2 h
      unfold lookW at this
      simp [hne, this]
theorem sorted_ext {a b : List W3} (ha : SortedW a) (hb : SortedW b) (h : ∀ k, lookW k a = lookW k b) : a = b := by
  refine sorted_unique a b ha hb fun x => ⟨fun hx => ?_, fun hx => ?_⟩
  · have := lookW_sorted ha hx
    rw [h] at this
    exact (lookW_mem this).1
  · have := lookW_sorted hb hx
    rw [← h] at this
    exact (lookW_mem this).1
theorem lookW_append (k : ByteArray) (l m : List W3) : lookW k (tabOf (l ++ m)) = (lookW k (tabOf m)).or (lookW k (tabOf l)) := by
  refine rev_ind (P := fun m => lookW k (tabOf (l ++ m)) = (lookW k (tabOf m)).or (lookW k (tabOf l))) (by simp [tabOf_nil, lookW]) (fun m w ih => ?_) m
  rw [← List.append_assoc, lookW_tab_snoc, lookW_tab_snoc, ih]
  split <;> simp
theorem keep_sorted {l : List W3} (h : SortedW l) : SortedW (l.filter keepW) := List.Pairwise.filter _ h
theorem keep_fixed {l : List W3} (h : Fixed l) : Fixed (l.filter keepW) := fun x hx => h x (List.mem_filter.1 hx).1
theorem lookW_keep {l : List W3} (hs : SortedW l) (k : ByteArray) : lookW k (l.filter keepW) = (lookW k l).filter keepW := by
  cases h : lookW k (l.filter keepW) with
  | some x =>
    obtain ⟨h1, h2⟩ := lookW_mem h
    obtain ⟨h3, h4⟩ := List.mem_filter.1 h1
    rw [← h2, lookW_sorted hs h3]
    show some x = if keepW x then some x else none
    rw [if_pos h4]
  | none =>
    cases h2 : lookW k l with
    | none => rfl
    | some y =>
      obtain ⟨h3, h4⟩ := lookW_mem h2
      cases h5 : keepW y with
      | false =>
        show none = if keepW y then some y else none
        rw [h5]
        rfl
      | true =>
        have := lookW_sorted (keep_sorted hs) (List.mem_filter.2 ⟨h3, h5⟩)
        rw [h4, h] at this
        cases this
theorem mrg_false (ls : List (List W3)) : mrg false ls = tabOf ls.flatten := rfl
theorem mrg_true (ls : List (List W3)) : mrg true ls = (tabOf ls.flatten).filter keepW := rfl
theorem mrg_sorted (b : Bool) (ls : List (List W3)) : SortedW (mrg b ls) := by
  cases b
  · exact tabOf_sorted _
  · exact keep_sorted (tabOf_sorted _)
theorem mrg_fixed (b : Bool) (ls : List (List W3)) : Fixed (mrg b ls) := by
  cases b
  · exact tabOf_fixed _
  · exact keep_fixed (tabOf_fixed _)
theorem mrg_self (b : Bool) (ls : List (List W3)) : tabOf (mrg b ls) = mrg b ls := tabOf_self _ (mrg_sorted b ls) (mrg_fixed b ls)
theorem mrg_len (b : Bool) (ls : List (List W3)) : (mrg b ls).length ≤ ls.flatten.length := by
  cases b
  · exact tabOf_len _
  · exact Nat.le_trans (List.length_filter_le _ _) (tabOf_len _)
theorem mrg_one (l : List W3) : mrg false [tabOf l] = tabOf l := by
  rw [mrg_false]
  simp [tabOf_tabOf]
theorem join_left (X Y Z : List W3) : mrg false [mrg false [X, Y], Z] = mrg false [X, Y, Z] := by
  refine sorted_ext (mrg_sorted _ _) (mrg_sorted _ _) fun k => ?_
  have e1 : [mrg false [X, Y], Z].flatten = mrg false [X, Y] ++ Z := by simp
  have e2 : [X, Y, Z].flatten = [X, Y].flatten ++ Z := by simp
  rw [mrg_false [mrg false [X, Y], Z], mrg_false [X, Y, Z], e1, e2, lookW_append, lookW_append, mrg_self, mrg_false]
theorem join_right (X Y Z : List W3) : mrg false [X, mrg false [Y, Z]] = mrg false [X, Y, Z] := by
  refine sorted_ext (mrg_sorted _ _) (mrg_sorted _ _) fun k => ?_
  have e1 : [X, mrg false [Y, Z]].flatten = X ++ mrg false [Y, Z] := by simp
  have e2 : [X, Y, Z].flatten = X ++ [Y, Z].flatten := by simp
  rw [mrg_false [X, mrg false [Y, Z]], mrg_false [X, Y, Z], e1, e2, lookW_append, lookW_append, mrg_self, mrg_false]
theorem or_keep (z t : Option W3) : (z.or (t.filter keepW)).filter keepW = (z.or t).filter keepW := by
  cases z with
  | some z => rfl
  | none =>
    cases t with
    | none => rfl
    | some t =>
      show (if keepW t then some t else none : Option W3).filter keepW = if keepW t then some t else none
      cases h : keepW t
      · rfl
      · show (if keepW t then some t else none) = some t
        rw [if_pos h]
theorem join_whole (X Y Z : List W3) : mrg true [mrg true [X, Y], Z] = mrg true [X, Y, Z] := by
  refine sorted_ext (mrg_sorted _ _) (mrg_sorted _ _) fun k => ?_
  have e1 : [mrg true [X, Y], Z].flatten = mrg true [X, Y] ++ Z := by simp
  have e2 : [X, Y, Z].flatten = [X, Y].flatten ++ Z := by simp
  rw [mrg_true [mrg true [X, Y], Z], mrg_true [X, Y, Z], e1, e2, lookW_keep (tabOf_sorted _), lookW_keep (tabOf_sorted _), lookW_append, lookW_append, mrg_self, mrg_true, lookW_keep (tabOf_sorted _), or_keep]
theorem join_twice (l : List W3) : mrg false [tabOf l, tabOf l] = tabOf l := by
  refine sorted_ext (mrg_sorted _ _) (tabOf_sorted _) fun k => ?_
  have e1 : [tabOf l, tabOf l].flatten = tabOf l ++ tabOf l := by simp
  rw [mrg_false, e1, lookW_append, tabOf_tabOf]
  cases lookW k (tabOf l) <;> rfl
open Go.RowKit in
theorem rsame_self (l : List W3) (A1 A2 : Option Addr) (n c1 c2 : Nat) (w : World) (h1 : Row w A1 3 (l.map wC)) (h2 : Row w A2 3 (l.map wC)) (hn : l.length = n) (hl : n ≤ 140737488351232) :
    Calls Try.prog 19 #[.slice A1 n c1, .slice A2 n c2] w fun e w' => e = .returned (.bool true) ∧ Ext w w' :=
  (rsame_calls l l A1 A2 n n c1 c2 w h1 h2 hn hn hl).mono fun e w' h => by rwa [decide_eq_true (rfl : l = l)] at h
end Go.Proofs.Ytnggdkpaofbaaaa
