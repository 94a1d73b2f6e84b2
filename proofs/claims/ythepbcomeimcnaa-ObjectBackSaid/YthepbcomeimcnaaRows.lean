/-
  No cell of these rows narrows 'for every input' (looked for: loops, veiled, ifaces, maps, wideKeys, modest, calm, conditions, laid).
  DERIVED. THE GIVEN ROWS OF THIS SEAT. 5 by the template 'for every input the law returns true; each argument reads behind the call as it read before'; 0 by the template 'total and deterministic' (their statements: YthepbcomeimcnaaTotals.lean).
  GIVEN WITH THE SEED: the statements are not yours to turn. If you find one false, say at which input.
  Laid BY PROGRAM, IN A SANDBOX (cutbox-rows.mjs): the forced cells as the released guide's own fill.sh prints them over the translation 1050457296efcc99… (all of the seat's roots in one cut). By AI agents, Wed Nov 11 2026. No macro, syntax, notation, axiom, sorry.
-/
import Derived.Test.YthepbcomeimcnaaChecked
import GoSem.Claim
import GoSem.ClaimJoined
import GoSem.ClaimMapViews
import Derived.JoinedTies
import Derived.KernelRfl
namespace Go.Proofs.Ythepbcomeimcnaa
/- THE CELL 'sum', in the pinned program and in every row, IS THE sha256 OF THE DUMP (.gsa) THAT YthepbcomeimcnaaProg.lean LOADS. Nothing in Lean hashes anything: it is a label: what it is worth is what the hold of that sum in a sandbox is worth. -/
noncomputable def Try.pinned : Pinned := { name := "ythepbcomeimcnaa", sum := "1050457296efcc9998e22905d0bdca4bff33ff402629a7050db0fb753fd9809f", checked := Try.checked }
namespace Rows
def none {H : Type} : Left H := { results := [], args := [] }

/-- 'rootstocklaw15.ObjectKeeps': WHATEVER THE INPUT: true; the input reads as it did. -/
def objectKeepsSpec : ChangeSpec := { name := "objectKeeps", fn := fun _ => fun
  | [d1, d2] => { results := [.lit (.bool true)], args := [d1, d2] }
  | _ => none }
def objectKeepsRow : OpenClaim := { program := "ythepbcomeimcnaa", sum := "1050457296efcc9998e22905d0bdca4bff33ff402629a7050db0fb753fd9809f", func := "rootstock/rootstocklaw15.ObjectKeeps", spec := "objectKeeps", recurses := true, apart := false }
def ObjectKeepsSaid : Prop := objectKeepsRow.holds Try.pinned (OpenSpec.ofChange objectKeepsSpec)

/-- ITS FALSE NEIGHBOUR: 'it returns false'. Refute it at one input. -/
def objectKeepsWrong : ChangeSpec := { name := "objectKeeps", fn := fun _ => fun
  | [d1, d2] => { results := [.lit (.bool false)], args := [d1, d2] }
  | _ => none }
def ObjectKeepsWrongFalsely : Prop := objectKeepsRow.holds Try.pinned (OpenSpec.ofChange objectKeepsWrong)

/-- 'rootstocklaw15.ObjectSizes': WHATEVER THE INPUT: true; the input reads as it did. -/
def objectSizesSpec : ChangeSpec := { name := "objectSizes", fn := fun _ => fun
  | [d1, d2] => { results := [.lit (.bool true)], args := [d1, d2] }
  | _ => none }
def objectSizesRow : OpenClaim := { program := "ythepbcomeimcnaa", sum := "1050457296efcc9998e22905d0bdca4bff33ff402629a7050db0fb753fd9809f", func := "rootstock/rootstocklaw15.ObjectSizes", spec := "objectSizes", apart := false }
def ObjectSizesSaid : Prop := objectSizesRow.holds Try.pinned (OpenSpec.ofChange objectSizesSpec)

/-- ITS FALSE NEIGHBOUR: 'it returns false'. Refute it at one input. -/
def objectSizesWrong : ChangeSpec := { name := "objectSizes", fn := fun _ => fun
  | [d1, d2] => { results := [.lit (.bool false)], args := [d1, d2] }
  | _ => none }
def ObjectSizesWrongFalsely : Prop := objectSizesRow.holds Try.pinned (OpenSpec.ofChange objectSizesWrong)

/-- 'rootstocklaw15.ObjectTrees': WHATEVER THE INPUT: true; the input reads as it did. -/
def objectTreesSpec : ChangeSpec := { name := "objectTrees", fn := fun _ => fun
  | [d1, d2] => { results := [.lit (.bool true)], args := [d1, d2] }
  | _ => none }
def objectTreesRow : OpenClaim := { program := "ythepbcomeimcnaa", sum := "1050457296efcc9998e22905d0bdca4bff33ff402629a7050db0fb753fd9809f", func := "rootstock/rootstocklaw15.ObjectTrees", spec := "objectTrees", recurses := true, apart := false }
def ObjectTreesSaid : Prop := objectTreesRow.holds Try.pinned (OpenSpec.ofChange objectTreesSpec)

/-- ITS FALSE NEIGHBOUR: 'it returns false'. Refute it at one input. -/
def objectTreesWrong : ChangeSpec := { name := "objectTrees", fn := fun _ => fun
  | [d1, d2] => { results := [.lit (.bool false)], args := [d1, d2] }
  | _ => none }
def ObjectTreesWrongFalsely : Prop := objectTreesRow.holds Try.pinned (OpenSpec.ofChange objectTreesWrong)

/-- 'rootstocklaw15.ObjectCommits': WHATEVER THE INPUT: true; the input reads as it did. -/
def objectCommitsSpec : ChangeSpec := { name := "objectCommits", fn := fun _ => fun
  | [d1, d2] => { results := [.lit (.bool true)], args := [d1, d2] }
  | _ => none }
def objectCommitsRow : OpenClaim := { program := "ythepbcomeimcnaa", sum := "1050457296efcc9998e22905d0bdca4bff33ff402629a7050db0fb753fd9809f", func := "rootstock/rootstocklaw15.ObjectCommits", spec := "objectCommits", recurses := true, apart := false }
def ObjectCommitsSaid : Prop := objectCommitsRow.holds Try.pinned (OpenSpec.ofChange objectCommitsSpec)

/-- ITS FALSE NEIGHBOUR: 'it returns false'. Refute it at one input. -/
def objectCommitsWrong : ChangeSpec := { name := "objectCommits", fn := fun _ => fun
  | [d1, d2] => { results := [.lit (.bool false)], args := [d1, d2] }
  | _ => none }
def ObjectCommitsWrongFalsely : Prop := objectCommitsRow.holds Try.pinned (OpenSpec.ofChange objectCommitsWrong)

/-- 'rootstocklaw15.ObjectBack': WHATEVER THE INPUT: true; the input reads as it did. -/
def objectBackSpec : ChangeSpec := { name := "objectBack", fn := fun _ => fun
  | [d1, d2, d3] => { results := [.lit (.bool true)], args := [d1, d2, d3] }
  | _ => none }
def objectBackRow : OpenClaim := { program := "ythepbcomeimcnaa", sum := "1050457296efcc9998e22905d0bdca4bff33ff402629a7050db0fb753fd9809f", func := "rootstock/rootstocklaw15.ObjectBack", spec := "objectBack", apart := false }
def ObjectBackSaid : Prop := objectBackRow.holds Try.pinned (OpenSpec.ofChange objectBackSpec)

/-- ITS FALSE NEIGHBOUR: 'it returns false'. Refute it at one input. -/
def objectBackWrong : ChangeSpec := { name := "objectBack", fn := fun _ => fun
  | [d1, d2, d3] => { results := [.lit (.bool false)], args := [d1, d2, d3] }
  | _ => none }
def ObjectBackWrongFalsely : Prop := objectBackRow.holds Try.pinned (OpenSpec.ofChange objectBackWrong)

/- THE SECOND FORM. 'bulk': how many values and letters a reading holds, each counted each time it is reached (what is shared counts as often as it is met; a slice's spare places count too). A statement '..UptoSaid' is the law's where the arguments, and the package variables that the reading takes, are together of bulk at most 1048576: NARROWER than '..Said'. Prove '..Said' where nothing that the law and all that it calls make is longer than what came in: it says more and counts as full. Else prove '..UptoSaid'. A law counts once. -/
mutual
def uptoBulk {H : Type} : DataW H → Nat
  | .lit (.string bytes) => bytes.length + 1
  | .lit _ => 1
  | .nil => 1
  | .ptr d => uptoBulk d + 1
  | .slice elems spare => uptoBulkAll elems + uptoBulkAll spare + 1
  | .agg parts => uptoBulkAll parts + 1
  | .iface _ d => uptoBulk d + 1
  | .map entries => uptoBulkEntries entries + 1
  | .held _ => 1
def uptoBulkAll {H : Type} : List (DataW H) → Nat
  | [] => 0
  | d :: r => uptoBulk d + uptoBulkAll r
def uptoBulkEntries {H : Type} : List (Lit × DataW H) → Nat
  | [] => 0
  | x :: r => uptoBulkEntry x + uptoBulkEntries r
def uptoBulkEntry {H : Type} : Lit × DataW H → Nat
  | (.string bytes, d) => bytes.length + uptoBulk d + 1
  | (_, d) => uptoBulk d + 1
 end
def uptoSmall : (H : Type) → List (DataW H) → Bool := fun _ ds => decide (uptoBulkAll ds ≤ 1048576)
def OpenSpec.upto (s : _root_.Go.ChangeSpec) : _root_.Go.OpenSpec := { _root_.Go.OpenSpec.ofChange s with cond := some uptoSmall }

/-- 'rootstocklaw15.ObjectKeeps', WHERE WHAT IT READS IS OF BULK AT MOST 1048576: true; the input reads as it did. -/
def objectKeepsUptoRow : OpenClaim := { program := "ythepbcomeimcnaa", sum := "1050457296efcc9998e22905d0bdca4bff33ff402629a7050db0fb753fd9809f", func := "rootstock/rootstocklaw15.ObjectKeeps", spec := "objectKeeps", recurses := true, apart := false, narrowed := true }
def ObjectKeepsUptoSaid : Prop := objectKeepsUptoRow.holds Try.pinned (OpenSpec.upto objectKeepsSpec)

/-- 'rootstocklaw15.ObjectSizes', WHERE WHAT IT READS IS OF BULK AT MOST 1048576: true; the input reads as it did. -/
def objectSizesUptoRow : OpenClaim := { program := "ythepbcomeimcnaa", sum := "1050457296efcc9998e22905d0bdca4bff33ff402629a7050db0fb753fd9809f", func := "rootstock/rootstocklaw15.ObjectSizes", spec := "objectSizes", apart := false, narrowed := true }
def ObjectSizesUptoSaid : Prop := objectSizesUptoRow.holds Try.pinned (OpenSpec.upto objectSizesSpec)

/-- 'rootstocklaw15.ObjectTrees', WHERE WHAT IT READS IS OF BULK AT MOST 1048576: true; the input reads as it did. -/
def objectTreesUptoRow : OpenClaim := { program := "ythepbcomeimcnaa", sum := "1050457296efcc9998e22905d0bdca4bff33ff402629a7050db0fb753fd9809f", func := "rootstock/rootstocklaw15.ObjectTrees", spec := "objectTrees", recurses := true, apart := false, narrowed := true }
def ObjectTreesUptoSaid : Prop := objectTreesUptoRow.holds Try.pinned (OpenSpec.upto objectTreesSpec)

/-- 'rootstocklaw15.ObjectCommits', WHERE WHAT IT READS IS OF BULK AT MOST 1048576: true; the input reads as it did. -/
def objectCommitsUptoRow : OpenClaim := { program := "ythepbcomeimcnaa", sum := "1050457296efcc9998e22905d0bdca4bff33ff402629a7050db0fb753fd9809f", func := "rootstock/rootstocklaw15.ObjectCommits", spec := "objectCommits", recurses := true, apart := false, narrowed := true }
def ObjectCommitsUptoSaid : Prop := objectCommitsUptoRow.holds Try.pinned (OpenSpec.upto objectCommitsSpec)

/-- 'rootstocklaw15.ObjectBack', WHERE WHAT IT READS IS OF BULK AT MOST 1048576: true; the input reads as it did. -/
def objectBackUptoRow : OpenClaim := { program := "ythepbcomeimcnaa", sum := "1050457296efcc9998e22905d0bdca4bff33ff402629a7050db0fb753fd9809f", func := "rootstock/rootstocklaw15.ObjectBack", spec := "objectBack", apart := false, narrowed := true }
def ObjectBackUptoSaid : Prop := objectBackUptoRow.holds Try.pinned (OpenSpec.upto objectBackSpec)

end Rows
end Go.Proofs.Ythepbcomeimcnaa
