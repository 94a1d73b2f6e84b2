/- A table's bytes. -/
import Derived.Test.YtnggdkpaofbaaaaFramePure
import Derived.Test.YtnggdkpaofbaaaaTabPure
namespace Go.Proofs.Ytnggdkpaofbaaaa
open Go.RowKit
set_option linter.unusedVariables false

def goneN (x : W3) : Nat := if x.2.2 then 1 else 0
def wrB (x : W3) : List UInt8 := uintB (goneN x) ++ (textB x.1.data.toList ++ textB x.2.1.data.toList)
def wrsB (l : List W3) : List UInt8 := l.flatMap wrB
def rowB (l : List W3) : List UInt8 := uintB l.length ++ wrsB l
def tbB (l : List W3) : List UInt8 := fr (rowB l)
def wrN (x : W3) : Nat := 1 + (textB x.1.data.toList).length + (textB x.2.1.data.toList).length
def wrsN (l : List W3) : Nat := (l.map wrN).sum
theorem wrB_len (x : W3) : (wrB x).length = wrN x := by
  obtain ⟨k, v, g⟩ := x
  have hg : goneN (k, v, g) < 128 := by unfold goneN; split <;> decide
  have h : (uintB (goneN (k, v, g))).length = 1 := by rw [uintB_lt hg]; rfl
  show (uintB (goneN (k, v, g)) ++ _).length = _
  rw [List.length_append, List.length_append, h]
  unfold wrN
  omega
theorem wrsB_snoc (l : List W3) (x : W3) : wrsB (l ++ [x]) = wrsB l ++ wrB x := by simp [wrsB]
theorem wrsN_snoc (l : List W3) (x : W3) : wrsN (l ++ [x]) = wrsN l + wrN x := by simp [wrsN]
theorem wrsB_len (l : List W3) : (wrsB l).length = wrsN l := by
  induction l with
  | nil => rfl
  | cons a t ih =>
    show (wrB a ++ wrsB t).length = wrN a + wrsN t
    rw [List.length_append, wrB_len, ih]
theorem rowB_len (l : List W3) : (rowB l).length = (uintB l.length).length + wrsN l := by rw [rowB, List.length_append, wrsB_len]
theorem tbB_len (l : List W3) : (tbB l).length = (uintB ((uintB l.length).length + wrsN l)).length + ((uintB l.length).length + wrsN l) + 4 := by
  show (textB (rowB l) ++ le4 _).length = _
  rw [List.length_append, show ∀ b : List UInt8, textB b = uintB b.length ++ b from fun _ => rfl, List.length_append, rowB_len]
  rfl
end Go.Proofs.Ytnggdkpaofbaaaa
