/- Layer 7 in plain Lean: nodes, whether one can be, and its bytes. No program here. -/
import Derived.Test.YtmfmpbeempjeoaaCodePure
namespace Go.Proofs.Ytmfmpbeempjeoaa
set_option linter.unusedVariables false

theorem less_total : ∀ x y : List UInt8, (!Op.bytesLess x y) = (Op.bytesLess y x || y == x)
  | [], [] => rfl
  | [], _ :: _ => rfl
  | _ :: _, [] => rfl
  | a :: x, b :: y => by
    have ih := less_total x y
    simp only [Op.bytesLess, List.cons_beq_cons]
    by_cases h1 : a < b
    · have h2 : ¬ b < a := fun h => UInt8.lt_irrefl _ (UInt8.lt_trans h1 h)
      have h3 : (b == a) = false := by rw [beq_eq_false_iff_ne]; rintro rfl; exact UInt8.lt_irrefl _ h1
      simp [h1, h2, h3]
    · by_cases h2 : b < a
      · have h3 : (a == b) = false := by rw [beq_eq_false_iff_ne]; rintro rfl; exact UInt8.lt_irrefl _ h2
        simp [h1, h2, h3]
      · have e : a = b := UInt8.le_antisymm (UInt8.not_lt.1 h2) (UInt8.not_lt.1 h1)
        subst e
        simpa using ih

/-- A node. -/
structure Nd where
  leaf : Bool
  keys : List ByteArray
  vals : List ByteArray
  kids : List Int

def slt (a b : ByteArray) : Bool := Op.bytesLess a.toList b.toList
def Nd.shape (n : Nd) : Bool := if n.leaf then n.vals.length == n.keys.length && n.kids.length == 0 else n.kids.length == n.keys.length + 1 && n.vals.length == 0
def Nd.keyOk (n : Nd) (i : Nat) : Bool := decide ((n.keys.getD i ByteArray.empty).size ≤ 48) && (i == 0 || slt (n.keys.getD (i - 1) ByteArray.empty) (n.keys.getD i ByteArray.empty))
def Nd.keysOk (n : Nd) : Bool := (List.range n.keys.length).all n.keyOk
def Nd.valsOk (n : Nd) : Bool := n.vals.all fun v => decide (v.size ≤ 160)
def kidOk (p : Int) : Bool := decide (1 ≤ p) && decide (p < 4096)
def Nd.kidsOk (n : Nd) : Bool := n.kids.all kidOk
/-- Whether a node can be. -/
def Nd.good (n : Nd) : Bool := n.shape && (n.keysOk && (n.valsOk && n.kidsOk))

def bl (s : ByteArray) : List UInt8 := s.data.toList
/-- The first k pairs' bytes. -/
def Nd.pairsB (n : Nd) (k : Nat) : List UInt8 := (List.range k).flatMap fun i => textB (bl (n.keys.getD i ByteArray.empty)) ++ (if n.leaf then textB (bl (n.vals.getD i ByteArray.empty)) else [])
def kidB (p : Int) : List UInt8 := uintB p.toNat
def Nd.headN (n : Nd) : Nat := 2 * n.keys.length + (if n.leaf then 1 else 0)
/-- A node's bytes. -/
def Nd.bytes (n : Nd) : List UInt8 := uintB n.headN ++ n.pairsB n.keys.length ++ n.kids.flatMap kidB
theorem Nd.pairsB_succ (n : Nd) (k : Nat) : n.pairsB (k + 1) = n.pairsB k ++ (textB (bl (n.keys.getD k ByteArray.empty)) ++ (if n.leaf then textB (bl (n.vals.getD k ByteArray.empty)) else [])) := by
  unfold Nd.pairsB
  rw [List.range_succ, List.flatMap_append]
  simp
end Go.Proofs.Ytmfmpbeempjeoaa
