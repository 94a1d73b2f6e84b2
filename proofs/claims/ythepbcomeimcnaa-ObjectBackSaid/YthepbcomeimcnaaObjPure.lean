/- Layer 15 in plain Lean: trees' and commits' objects, whether one can be, its bytes. -/
import Derived.Test.YthepbcomeimcnaaIdentPure
import Derived.Test.YthepbcomeimcnaaCodePure
namespace Go.Proofs.Ythepbcomeimcnaa
set_option linter.unusedVariables false

abbrev Pr := ByteArray × ByteArray
abbrev Kd := ByteArray × List UInt8
/-- A tree's object. -/
structure Tr where
  pairs : List Pr
  kids : List Kd
/-- A commit. -/
structure Cm where
  root : List UInt8
  parents : List (List UInt8)
  note : ByteArray
  num : Int
def bslt (a b : ByteArray) : Bool := Op.bytesLess a.toList b.toList
theorem less_tot : ∀ x y : List UInt8, (!Op.bytesLess x y) = (Op.bytesLess y x || y == x)
  | [], [] => rfl
  | [], _ :: _ => rfl
  | _ :: _, [] => rfl
  | a :: x, b :: y => by
    have ih := less_tot x y
    simp only [Op.bytesLess, List.cons_beq_cons]
    by_cases h1 : a < b
    · have h2 : ¬ b < a := fun h => UInt8.lt_irrefl _ (UInt8.lt_trans h1 h)
      have h3 : (b == a) = false := by rw [beq_eq_false_iff_ne]; rintro rfl; exact UInt8.lt_irrefl _ h1
      simp [h1, h2, h3]
    · by_cases h2 : b < a
      · have h3 : (a == b) = false := by rw [beq_eq_false_iff_ne]; rintro rfl; exact UInt8.lt_irrefl _ h2
        simp [h1, h2, h3]
      · have e : a = b := UInt8.le_antisymm (UInt8.not_lt.1 h2) (UInt8.not_lt.1 h1)
        subst e
        simpa using ih
def prAt (ps : List Pr) (i : Nat) : Pr := ps.getD i (ByteArray.empty, ByteArray.empty)
def kdAt (ks : List Kd) (i : Nat) : Kd := ks.getD i (ByteArray.empty, [])
def prOk (ps : List Pr) (i : Nat) : Bool := decide ((prAt ps i).1.size ≤ 16) && (decide ((prAt ps i).2.size ≤ 16) && (i == 0 || bslt (prAt ps (i - 1)).1 (prAt ps i).1))
def kdOk (ks : List Kd) (i : Nat) : Bool :=
  decide ((kdAt ks i).1.size ≤ 16) && (idGood (kdAt ks i).2 && (idKind (kdAt ks i).2 == idKind (kdAt ks 0).2 && (i == 0 || bslt (kdAt ks (i - 1)).1 (kdAt ks i).1)))
def Tr.shape (t : Tr) : Bool := decide (t.pairs.length ≤ 4) && (decide (t.kids.length ≤ 3) && (!(decide (0 < t.pairs.length) && decide (0 < t.kids.length)) && !(t.kids.length == 1)))
/-- Whether a tree's object can be. -/
def Tr.good (t : Tr) : Bool := t.shape && ((List.range t.pairs.length).all (prOk t.pairs) && (List.range t.kids.length).all (kdOk t.kids))
def paOk (c : Cm) (i : Nat) : Bool := idGood (c.parents.getD i []) && (idKind (c.parents.getD i []) == idKind c.root && (i == 0 || !(c.parents.getD (i - 1) [] == c.parents.getD i [])))
def Cm.shape (c : Cm) : Bool := decide (c.parents.length ≤ 2) && (decide (c.note.size ≤ 32) && (decide (1 ≤ c.num) && (decide (c.num ≤ 1024) && idGood c.root)))
/-- Whether a commit can be. -/
def Cm.good (c : Cm) : Bool := c.shape && (List.range c.parents.length).all (paOk c)

def blo (s : ByteArray) : List UInt8 := s.data.toList
def prB (p : Pr) : List UInt8 := textB (blo p.1) ++ textB (blo p.2)
def kdB (k : Kd) : List UInt8 := textB (blo k.1) ++ idText k.2
/-- A tree's bytes. -/
def Tr.bytes (t : Tr) : List UInt8 :=
  if t.kids.length = 0 then [1, UInt8.ofNat t.pairs.length] ++ t.pairs.flatMap prB else [2, UInt8.ofNat t.kids.length] ++ t.kids.flatMap kdB
/-- A commit's bytes. -/
def Cm.bytes (c : Cm) : List UInt8 := [3, UInt8.ofNat c.parents.length] ++ idText c.root ++ c.parents.flatMap idText ++ textB (blo c.note) ++ intB c.num
end Go.Proofs.Ythepbcomeimcnaa
