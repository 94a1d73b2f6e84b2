/- Merge of one, two, three tables out of a literal. -/
import Derived.Test.YtnggdkpaofbaaaaTabJoin
namespace Go.Proofs.Ytnggdkpaofbaaaa
open Go.RowKit Go.Shelf
set_option linter.unusedVariables false

abbrev MrgC (b : Bool) (k : Nat) (cs : Array Value) (w : World) (l : List W3) : Prop :=
  Calls Try.prog 27 #[.bool b, .slice (some ⟨w.heap.size, 0, none⟩) k k] (w.alloc (.cells cs 29)) fun e w' => ∃ p, e = .returned (.pointer (some ⟨p, 0, none⟩)) ∧ TabAt 0 w' p l ∧ Ext w w'
theorem merge_lit (b : Bool) (q : List (Nat × List W3)) (w : World) (h : ∀ t ∈ q, TabAt 0 w t.1 t.2) (hl : (q.map (·.2)).flatten.length ≤ 1000000) (hn : q.length ≤ 1000000) (cs : Array Value) (hcs : cs.toList = q.map fun t => tptr t.1) : MrgC b q.length cs w (mrg b (q.map (·.2))) := by
  have hc := (Blk.new w 29 cs).cells
  rw [hcs] at hc
  refine (merge_calls b q _ q.length q.length _ hc rfl (fun t ht => (h t ht).ext ((Ext.refl w).alloc _)) hl hn).mono ?_
  rintro e w' ⟨p, rfl, _, h1, h2⟩
  exact ⟨p, rfl, h1.lower (Nat.zero_le _), ((Ext.refl w).alloc _).trans h2⟩
theorem merge1_lit (b : Bool) (p1 : Nat) (X : List W3) (w : World) (h1 : TabAt 0 w p1 X) (hl : X.length ≤ 1000000) : MrgC b 1 #[.pointer (some ⟨p1, 0, none⟩)] w (mrg b [X]) :=
  merge_lit b [(p1, X)] w (fun t ht => by rw [List.mem_singleton] at ht; subst ht; exact h1) (by simpa using hl) (by show 1 ≤ 1000000; decide) _ rfl
theorem merge2_lit (b : Bool) (p1 p2 : Nat) (X Y : List W3) (w : World) (h1 : TabAt 0 w p1 X) (h2 : TabAt 0 w p2 Y) (hl : X.length + Y.length ≤ 1000000) : MrgC b 2 #[.pointer (some ⟨p1, 0, none⟩), .pointer (some ⟨p2, 0, none⟩)] w (mrg b [X, Y]) :=
  merge_lit b [(p1, X), (p2, Y)] w (fun t ht => by
    rcases List.mem_cons.1 ht with rfl | ht
    · exact h1
    · rw [List.mem_singleton] at ht; subst ht; exact h2) (by simpa using hl) (by show 2 ≤ 1000000; decide) _ rfl
theorem merge3_lit (b : Bool) (p1 p2 p3 : Nat) (X Y Z : List W3) (w : World) (h1 : TabAt 0 w p1 X) (h2 : TabAt 0 w p2 Y) (h3 : TabAt 0 w p3 Z) (hl : X.length + Y.length + Z.length ≤ 1000000) : MrgC b 3 #[.pointer (some ⟨p1, 0, none⟩), .pointer (some ⟨p2, 0, none⟩), .pointer (some ⟨p3, 0, none⟩)] w (mrg b [X, Y, Z]) :=
  merge_lit b [(p1, X), (p2, Y), (p3, Z)] w (fun t ht => by
    rcases List.mem_cons.1 ht with rfl | ht
    · exact h1
    rcases List.mem_cons.1 ht with rfl | ht
    · exact h2
    · rw [List.mem_singleton] at ht; subst ht; exact h3) (by simp; omega) (by show 3 ≤ 1000000; decide) _ rfl
theorem of_tab (ls X : List W3) (A : Option Addr) (n c : Nat) (w : World) (hr : Row w A 3 (ls.map wC)) (hn : ls.length = n) (hl : n ≤ 1000000) (hX : X = tabOf ls) :
    Calls Try.prog 11 #[.slice A n c] w fun e w' => ∃ p, e = .returned (.pointer (some ⟨p, 0, none⟩)) ∧ TabAt 0 w' p X ∧ Ext w w' :=
  (of_calls ls A n c w hr hn hl).mono (by rintro e w' ⟨p, rfl, _, h, k⟩; exact ⟨p, rfl, by rw [hX]; exact h.lower (Nat.zero_le _), k⟩)
theorem all_tab (p : Nat) (l : List W3) (w : World) (h : TabAt 0 w p l) (n : Nat) (hn : l.length = n) (hl : n ≤ 1000000) :
    Calls Try.prog 20 #[.pointer (some ⟨p, 0, none⟩)] w fun e w' => ∃ A c, e = .returned (.slice A n c) ∧ Row w' A 3 (l.map wC) ∧ Ext w w' := by
  subst hn
  refine (all_calls 0 p l w h hl).mono ?_
  rintro e w' ⟨v, rfl, h1, h2⟩
  obtain ⟨A, c, rfl, _, _, hc⟩ := h1.form
  exact ⟨A, c, rfl, row_of_cells hc, h2⟩
end Go.Proofs.Ytnggdkpaofbaaaa
