/-
  No cell of these rows narrows 'for every input' (looked for: loops, veiled, ifaces, maps, wideKeys, modest, calm, conditions, laid).
  DERIVED. THE GIVEN ROWS OF THIS SEAT. 5 by the template 'for every input the law returns true; each argument reads behind the call as it read before'; 0 by the template 'total and deterministic' (their statements: YtjnpmleehapkcaaTotals.lean).
  GIVEN WITH THE SEED: the statements are not yours to turn. If you find one false, say at which input.
  Laid BY PROGRAM, IN A SANDBOX (cutbox-rows.mjs): the forced cells as the released guide's own fill.sh prints them over the translation 82519314ed3d6deb… (all of the seat's roots in one cut). By AI agents, Wed Nov 11 2026. No macro, syntax, notation, axiom, sorry.
-/
import Derived.Test.YtjnpmleehapkcaaChecked
import GoSem.Claim
import GoSem.ClaimJoined
import GoSem.ClaimMapViews
import Derived.JoinedTies
import Derived.KernelRfl
namespace Go.Proofs.Ytjnpmleehapkcaa
/- THE CELL 'sum', in the pinned program and in every row, IS THE sha256 OF THE DUMP (.gsa) THAT YtjnpmleehapkcaaProg.lean LOADS. Nothing in Lean hashes anything: it is a label: what it is worth is what the hold of that sum in a sandbox is worth. -/
noncomputable def Try.pinned : Pinned := { name := "ytjnpmleehapkcaa", sum := "82519314ed3d6debcdea2892a48a31a9d2af10683a230b671b8e1c3c9c8d65f7", checked := Try.checked }
namespace Rows
def none {H : Type} : Left H := { results := [], args := [] }

/-- 'rootstocklaw02.FnvGoes': WHATEVER THE INPUT: true; the input reads as it did. -/
def fnvGoesSpec : ChangeSpec := { name := "fnvGoes", fn := fun _ => fun
  | [d1, d2, d3] => { results := [.lit (.bool true)], args := [d1, d2, d3] }
  | _ => none }
def fnvGoesRow : OpenClaim := { program := "ytjnpmleehapkcaa", sum := "82519314ed3d6debcdea2892a48a31a9d2af10683a230b671b8e1c3c9c8d65f7", func := "rootstock/rootstocklaw02.FnvGoes", spec := "fnvGoes", apart := false }
def FnvGoesSaid : Prop := fnvGoesRow.holds Try.pinned (OpenSpec.ofChange fnvGoesSpec)

/-- ITS FALSE NEIGHBOUR: 'it returns false'. Refute it at one input. -/
def fnvGoesWrong : ChangeSpec := { name := "fnvGoes", fn := fun _ => fun
  | [d1, d2, d3] => { results := [.lit (.bool false)], args := [d1, d2, d3] }
  | _ => none }
def FnvGoesWrongFalsely : Prop := fnvGoesRow.holds Try.pinned (OpenSpec.ofChange fnvGoesWrong)

/-- 'rootstocklaw02.FnvParts': WHATEVER THE INPUT: true; the input reads as it did. -/
def fnvPartsSpec : ChangeSpec := { name := "fnvParts", fn := fun _ => fun
  | [d1, d2, d3, d4, d5] => { results := [.lit (.bool true)], args := [d1, d2, d3, d4, d5] }
  | _ => none }
def fnvPartsRow : OpenClaim := { program := "ytjnpmleehapkcaa", sum := "82519314ed3d6debcdea2892a48a31a9d2af10683a230b671b8e1c3c9c8d65f7", func := "rootstock/rootstocklaw02.FnvParts", spec := "fnvParts", apart := false }
def FnvPartsSaid : Prop := fnvPartsRow.holds Try.pinned (OpenSpec.ofChange fnvPartsSpec)

/-- ITS FALSE NEIGHBOUR: 'it returns false'. Refute it at one input. -/
def fnvPartsWrong : ChangeSpec := { name := "fnvParts", fn := fun _ => fun
  | [d1, d2, d3, d4, d5] => { results := [.lit (.bool false)], args := [d1, d2, d3, d4, d5] }
  | _ => none }
def FnvPartsWrongFalsely : Prop := fnvPartsRow.holds Try.pinned (OpenSpec.ofChange fnvPartsWrong)

/-- 'rootstocklaw02.FnvKeeps': WHATEVER THE INPUT: true; the input reads as it did. -/
def fnvKeepsSpec : ChangeSpec := { name := "fnvKeeps", fn := fun _ => fun
  | [d1, d2] => { results := [.lit (.bool true)], args := [d1, d2] }
  | _ => none }
def fnvKeepsRow : OpenClaim := { program := "ytjnpmleehapkcaa", sum := "82519314ed3d6debcdea2892a48a31a9d2af10683a230b671b8e1c3c9c8d65f7", func := "rootstock/rootstocklaw02.FnvKeeps", spec := "fnvKeeps", apart := false }
def FnvKeepsSaid : Prop := fnvKeepsRow.holds Try.pinned (OpenSpec.ofChange fnvKeepsSpec)

/-- ITS FALSE NEIGHBOUR: 'it returns false'. Refute it at one input. -/
def fnvKeepsWrong : ChangeSpec := { name := "fnvKeeps", fn := fun _ => fun
  | [d1, d2] => { results := [.lit (.bool false)], args := [d1, d2] }
  | _ => none }
def FnvKeepsWrongFalsely : Prop := fnvKeepsRow.holds Try.pinned (OpenSpec.ofChange fnvKeepsWrong)

/-- 'rootstocklaw02.FnvTurned': WHATEVER THE INPUT: true; the input reads as it did. -/
def fnvTurnedSpec : ChangeSpec := { name := "fnvTurned", fn := fun _ => fun
  | [d1, d2, d3] => { results := [.lit (.bool true)], args := [d1, d2, d3] }
  | _ => none }
def fnvTurnedRow : OpenClaim := { program := "ytjnpmleehapkcaa", sum := "82519314ed3d6debcdea2892a48a31a9d2af10683a230b671b8e1c3c9c8d65f7", func := "rootstock/rootstocklaw02.FnvTurned", spec := "fnvTurned", apart := false }
def FnvTurnedSaid : Prop := fnvTurnedRow.holds Try.pinned (OpenSpec.ofChange fnvTurnedSpec)

/-- ITS FALSE NEIGHBOUR: 'it returns false'. Refute it at one input. -/
def fnvTurnedWrong : ChangeSpec := { name := "fnvTurned", fn := fun _ => fun
  | [d1, d2, d3] => { results := [.lit (.bool false)], args := [d1, d2, d3] }
  | _ => none }
def FnvTurnedWrongFalsely : Prop := fnvTurnedRow.holds Try.pinned (OpenSpec.ofChange fnvTurnedWrong)

/-- 'rootstocklaw02.FnvSums': WHATEVER THE INPUT: true; the input reads as it did. -/
def fnvSumsSpec : ChangeSpec := { name := "fnvSums", fn := fun _ => fun
  | [d1, d2] => { results := [.lit (.bool true)], args := [d1, d2] }
  | _ => none }
def fnvSumsRow : OpenClaim := { program := "ytjnpmleehapkcaa", sum := "82519314ed3d6debcdea2892a48a31a9d2af10683a230b671b8e1c3c9c8d65f7", func := "rootstock/rootstocklaw02.FnvSums", spec := "fnvSums", apart := false }
def FnvSumsSaid : Prop := fnvSumsRow.holds Try.pinned (OpenSpec.ofChange fnvSumsSpec)

/-- ITS FALSE NEIGHBOUR: 'it returns false'. Refute it at one input. -/
def fnvSumsWrong : ChangeSpec := { name := "fnvSums", fn := fun _ => fun
  | [d1, d2] => { results := [.lit (.bool false)], args := [d1, d2] }
  | _ => none }
def FnvSumsWrongFalsely : Prop := fnvSumsRow.holds Try.pinned (OpenSpec.ofChange fnvSumsWrong)

/- THE SECOND FORM. 'bulk': how many values and letters a reading holds, each counted each time it is reached (what is shared counts as often as it is met; a slice's spare places count too). A statement '..UptoSaid' is the law's where the arguments, and the package variables that the reading takes, are together of bulk at most 1048576: NARROWER than '..Said'. Prove '..Said' where nothing that the law and all that it calls make is longer than what came in: it says more and counts as full. Else prove '..UptoSaid'. A law counts once. -/
mutual
def uptoBulk {H : Type} : DataW H → Nat
  | .lit (.string bytes) => bytes.length + 1
  | .lit _ => 1
  | .nil => 1
  | .ptr d => uptoBulk d + 1
  | .slice elems spare => uptoBulkAll elems + uptoBulkAll spare + 1
  | .agg parts => uptoBulkAll parts + 1
  | .iface _ d => uptoBulk d + 1
  | .map entries => uptoBulkEntries entries + 1
  | .held _ => 1
def uptoBulkAll {H : Type} : List (DataW H) → Nat
  | [] => 0
  | d :: r => uptoBulk d + uptoBulkAll r
def uptoBulkEntries {H : Type} : List (Lit × DataW H) → Nat
  | [] => 0
  | x :: r => uptoBulkEntry x + uptoBulkEntries r
def uptoBulkEntry {H : Type} : Lit × DataW H → Nat
  | (.string bytes, d) => bytes.length + uptoBulk d + 1
  | (_, d) => uptoBulk d + 1
 end
def uptoSmall : (H : Type) → List (DataW H) → Bool := fun _ ds => decide (uptoBulkAll ds ≤ 1048576)
def OpenSpec.upto (s : _root_.Go.ChangeSpec) : _root_.Go.OpenSpec := { _root_.Go.OpenSpec.ofChange s with cond := some uptoSmall }

/-- 'rootstocklaw02.FnvGoes', WHERE WHAT IT READS IS OF BULK AT MOST 1048576: true; the input reads as it did. -/
def fnvGoesUptoRow : OpenClaim := { program := "ytjnpmleehapkcaa", sum := "82519314ed3d6debcdea2892a48a31a9d2af10683a230b671b8e1c3c9c8d65f7", func := "rootstock/rootstocklaw02.FnvGoes", spec := "fnvGoes", apart := false, narrowed := true }
def FnvGoesUptoSaid : Prop := fnvGoesUptoRow.holds Try.pinned (OpenSpec.upto fnvGoesSpec)

/-- 'rootstocklaw02.FnvParts', WHERE WHAT IT READS IS OF BULK AT MOST 1048576: true; the input reads as it did. -/
def fnvPartsUptoRow : OpenClaim := { program := "ytjnpmleehapkcaa", sum := "82519314ed3d6debcdea2892a48a31a9d2af10683a230b671b8e1c3c9c8d65f7", func := "rootstock/rootstocklaw02.FnvParts", spec := "fnvParts", apart := false, narrowed := true }
def FnvPartsUptoSaid : Prop := fnvPartsUptoRow.holds Try.pinned (OpenSpec.upto fnvPartsSpec)

/-- 'rootstocklaw02.FnvKeeps', WHERE WHAT IT READS IS OF BULK AT MOST 1048576: true; the input reads as it did. -/
def fnvKeepsUptoRow : OpenClaim := { program := "ytjnpmleehapkcaa", sum := "82519314ed3d6debcdea2892a48a31a9d2af10683a230b671b8e1c3c9c8d65f7", func := "rootstock/rootstocklaw02.FnvKeeps", spec := "fnvKeeps", apart := false, narrowed := true }
def FnvKeepsUptoSaid : Prop := fnvKeepsUptoRow.holds Try.pinned (OpenSpec.upto fnvKeepsSpec)

/-- 'rootstocklaw02.FnvTurned', WHERE WHAT IT READS IS OF BULK AT MOST 1048576: true; the input reads as it did. -/
def fnvTurnedUptoRow : OpenClaim := { program := "ytjnpmleehapkcaa", sum := "82519314ed3d6debcdea2892a48a31a9d2af10683a230b671b8e1c3c9c8d65f7", func := "rootstock/rootstocklaw02.FnvTurned", spec := "fnvTurned", apart := false, narrowed := true }
def FnvTurnedUptoSaid : Prop := fnvTurnedUptoRow.holds Try.pinned (OpenSpec.upto fnvTurnedSpec)

/-- 'rootstocklaw02.FnvSums', WHERE WHAT IT READS IS OF BULK AT MOST 1048576: true; the input reads as it did. -/
def fnvSumsUptoRow : OpenClaim := { program := "ytjnpmleehapkcaa", sum := "82519314ed3d6debcdea2892a48a31a9d2af10683a230b671b8e1c3c9c8d65f7", func := "rootstock/rootstocklaw02.FnvSums", spec := "fnvSums", apart := false, narrowed := true }
def FnvSumsUptoSaid : Prop := fnvSumsUptoRow.holds Try.pinned (OpenSpec.upto fnvSumsSpec)

end Rows
end Go.Proofs.Ytjnpmleehapkcaa
