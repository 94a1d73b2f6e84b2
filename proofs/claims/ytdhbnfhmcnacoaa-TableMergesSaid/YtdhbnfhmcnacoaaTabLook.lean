/- What a key's last table says is what the tables put together say. -/
import Derived.Test.YtdhbnfhmcnacoaaTabMany
namespace Go.Proofs.Ytdhbnfhmcnacoaa
open Go.RowKit Go.Shelf
set_option linter.unusedVariables false

def lastW (k : ByteArray) (ls : List (List W3)) : Option W3 := ls.foldl (fun r l => (lookW k (tabOf l)).or r) none
theorem lastW_snoc (k : ByteArray) (ls : List (List W3)) (l : List W3) : lastW k (ls ++ [l]) = (lookW k (tabOf l)).or (lastW k ls) := by simp [lastW]
theorem rev_ind2 {P : List (List W3) → Prop} (h0 : P []) (h1 : ∀ ls l, P ls → P (ls ++ [l])) (ls : List (List W3)) : P ls := by
  rw [← List.reverse_reverse ls]
  induction ls.reverse with
  | nil => exact h0
  | cons a t ih => rw [List.reverse_cons]; exact h1 _ _ ih
theorem look_flat (k : ByteArray) (ls : List (List W3)) : lookW k (tabOf (ls.map tabOf).flatten) = lastW k ls := by
  induction ls using rev_ind2 with
  | h0 => rfl
  | h1 ls l ih =>
    rw [List.map_append, List.flatten_append, lookW_append, ih, lastW_snoc]
    have : (List.map tabOf [l]).flatten = tabOf l := by simp
    rw [this, tabOf_tabOf]
theorem look_mrg (b : Bool) (k : ByteArray) (ls : List (List W3)) : lookW k (mrg b (ls.map tabOf)) = if b then (lastW k ls).filter keepW else lastW k ls := by
  cases b with
  | false => exact look_flat k ls
  | true =>
    rw [mrg_true, lookW_keep (tabOf_sorted _), look_flat]
    rfl
end Go.Proofs.Ytdhbnfhmcnacoaa
