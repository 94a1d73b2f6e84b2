/-
  No cell of these rows narrows 'for every input' (looked for: loops, veiled, ifaces, maps, wideKeys, modest, calm, conditions, laid).
  DERIVED. THE GIVEN ROWS OF THIS SEAT. 5 by the template 'for every input the law returns true; each argument reads behind the call as it read before'; 0 by the template 'total and deterministic' (their statements: YtmfmpbeempjeoaaTotals.lean).
  GIVEN WITH THE SEED: the statements are not yours to turn. If you find one false, say at which input.
  Laid BY PROGRAM, IN A SANDBOX (cutbox-rows.mjs): the forced cells as the released guide's own fill.sh prints them over the translation 1b66df4954f87624… (all of the seat's roots in one cut). By AI agents, Wed Nov 11 2026. No macro, syntax, notation, axiom, sorry.
-/
import Derived.Test.YtmfmpbeempjeoaaChecked
import GoSem.Claim
import GoSem.ClaimJoined
import GoSem.ClaimMapViews
import Derived.JoinedTies
import Derived.KernelRfl
namespace Go.Proofs.Ytmfmpbeempjeoaa
/- THE CELL 'sum', in the pinned program and in every row, IS THE sha256 OF THE DUMP (.gsa) THAT YtmfmpbeempjeoaaProg.lean LOADS. Nothing in Lean hashes anything: it is a label: what it is worth is what the hold of that sum in a sandbox is worth. -/
noncomputable def Try.pinned : Pinned := { name := "ytmfmpbeempjeoaa", sum := "1b66df4954f87624f754f00a3f323f20fa17887a9b19e27dd428bc02a6c4b879", checked := Try.checked }
namespace Rows
def none {H : Type} : Left H := { results := [], args := [] }

/-- 'rootstocklaw07.LeafEncodes': WHATEVER THE INPUT: true; the input reads as it did. -/
def leafEncodesSpec : ChangeSpec := { name := "leafEncodes", fn := fun _ => fun
  | [d] => { results := [.lit (.bool true)], args := [d] }
  | _ => none }
def leafEncodesRow : OpenClaim := { program := "ytmfmpbeempjeoaa", sum := "1b66df4954f87624f754f00a3f323f20fa17887a9b19e27dd428bc02a6c4b879", func := "rootstock/rootstocklaw07.LeafEncodes", spec := "leafEncodes", unfollowed := true, recurses := true, apart := false }
def LeafEncodesSaid : Prop := leafEncodesRow.holds Try.pinned (OpenSpec.ofChange leafEncodesSpec)

/-- ITS FALSE NEIGHBOUR: 'it returns false'. Refute it at one input. -/
def leafEncodesWrong : ChangeSpec := { name := "leafEncodes", fn := fun _ => fun
  | [d] => { results := [.lit (.bool false)], args := [d] }
  | _ => none }
def LeafEncodesWrongFalsely : Prop := leafEncodesRow.holds Try.pinned (OpenSpec.ofChange leafEncodesWrong)

/-- 'rootstocklaw07.LeafSizes': WHATEVER THE INPUT: true; the input reads as it did. -/
def leafSizesSpec : ChangeSpec := { name := "leafSizes", fn := fun _ => fun
  | [d1, d2, d3] => { results := [.lit (.bool true)], args := [d1, d2, d3] }
  | _ => none }
def leafSizesRow : OpenClaim := { program := "ytmfmpbeempjeoaa", sum := "1b66df4954f87624f754f00a3f323f20fa17887a9b19e27dd428bc02a6c4b879", func := "rootstock/rootstocklaw07.LeafSizes", spec := "leafSizes", unfollowed := true, recurses := true, apart := false }
def LeafSizesSaid : Prop := leafSizesRow.holds Try.pinned (OpenSpec.ofChange leafSizesSpec)

/-- ITS FALSE NEIGHBOUR: 'it returns false'. Refute it at one input. -/
def leafSizesWrong : ChangeSpec := { name := "leafSizes", fn := fun _ => fun
  | [d1, d2, d3] => { results := [.lit (.bool false)], args := [d1, d2, d3] }
  | _ => none }
def LeafSizesWrongFalsely : Prop := leafSizesRow.holds Try.pinned (OpenSpec.ofChange leafSizesWrong)

/-- 'rootstocklaw07.LeafDecodes': WHATEVER THE INPUT: true; the input reads as it did. -/
def leafDecodesSpec : ChangeSpec := { name := "leafDecodes", fn := fun _ => fun
  | [d] => { results := [.lit (.bool true)], args := [d] }
  | _ => none }
def leafDecodesRow : OpenClaim := { program := "ytmfmpbeempjeoaa", sum := "1b66df4954f87624f754f00a3f323f20fa17887a9b19e27dd428bc02a6c4b879", func := "rootstock/rootstocklaw07.LeafDecodes", spec := "leafDecodes", unfollowed := true, recurses := true, apart := false }
def LeafDecodesSaid : Prop := leafDecodesRow.holds Try.pinned (OpenSpec.ofChange leafDecodesSpec)

/-- ITS FALSE NEIGHBOUR: 'it returns false'. Refute it at one input. -/
def leafDecodesWrong : ChangeSpec := { name := "leafDecodes", fn := fun _ => fun
  | [d] => { results := [.lit (.bool false)], args := [d] }
  | _ => none }
def LeafDecodesWrongFalsely : Prop := leafDecodesRow.holds Try.pinned (OpenSpec.ofChange leafDecodesWrong)

/-- 'rootstocklaw07.LeafBack': WHATEVER THE INPUT: true; the input reads as it did. -/
def leafBackSpec : ChangeSpec := { name := "leafBack", fn := fun _ => fun
  | [d1, d2] => { results := [.lit (.bool true)], args := [d1, d2] }
  | _ => none }
def leafBackRow : OpenClaim := { program := "ytmfmpbeempjeoaa", sum := "1b66df4954f87624f754f00a3f323f20fa17887a9b19e27dd428bc02a6c4b879", func := "rootstock/rootstocklaw07.LeafBack", spec := "leafBack", unfollowed := true, recurses := true, apart := false }
def LeafBackSaid : Prop := leafBackRow.holds Try.pinned (OpenSpec.ofChange leafBackSpec)

/-- ITS FALSE NEIGHBOUR: 'it returns false'. Refute it at one input. -/
def leafBackWrong : ChangeSpec := { name := "leafBack", fn := fun _ => fun
  | [d1, d2] => { results := [.lit (.bool false)], args := [d1, d2] }
  | _ => none }
def LeafBackWrongFalsely : Prop := leafBackRow.holds Try.pinned (OpenSpec.ofChange leafBackWrong)

/-- 'rootstocklaw07.LeafKeeps': WHATEVER THE INPUT: true; the input reads as it did. -/
def leafKeepsSpec : ChangeSpec := { name := "leafKeeps", fn := fun _ => fun
  | [d] => { results := [.lit (.bool true)], args := [d] }
  | _ => none }
def leafKeepsRow : OpenClaim := { program := "ytmfmpbeempjeoaa", sum := "1b66df4954f87624f754f00a3f323f20fa17887a9b19e27dd428bc02a6c4b879", func := "rootstock/rootstocklaw07.LeafKeeps", spec := "leafKeeps", unfollowed := true, recurses := true, apart := false }
def LeafKeepsSaid : Prop := leafKeepsRow.holds Try.pinned (OpenSpec.ofChange leafKeepsSpec)

/-- ITS FALSE NEIGHBOUR: 'it returns false'. Refute it at one input. -/
def leafKeepsWrong : ChangeSpec := { name := "leafKeeps", fn := fun _ => fun
  | [d] => { results := [.lit (.bool false)], args := [d] }
  | _ => none }
def LeafKeepsWrongFalsely : Prop := leafKeepsRow.holds Try.pinned (OpenSpec.ofChange leafKeepsWrong)

/- THE SECOND FORM. 'bulk': how many values and letters a reading holds, each counted each time it is reached (what is shared counts as often as it is met; a slice's spare places count too). A statement '..UptoSaid' is the law's where the arguments, and the package variables that the reading takes, are together of bulk at most 1048576: NARROWER than '..Said'. Prove '..Said' where nothing that the law and all that it calls make is longer than what came in: it says more and counts as full. Else prove '..UptoSaid'. A law counts once. -/
mutual
def uptoBulk {H : Type} : DataW H → Nat
  | .lit (.string bytes) => bytes.length + 1
  | .lit _ => 1
  | .nil => 1
  | .ptr d => uptoBulk d + 1
  | .slice elems spare => uptoBulkAll elems + uptoBulkAll spare + 1
  | .agg parts => uptoBulkAll parts + 1
  | .iface _ d => uptoBulk d + 1
  | .map entries => uptoBulkEntries entries + 1
  | .held _ => 1
def uptoBulkAll {H : Type} : List (DataW H) → Nat
  | [] => 0
  | d :: r => uptoBulk d + uptoBulkAll r
def uptoBulkEntries {H : Type} : List (Lit × DataW H) → Nat
  | [] => 0
  | x :: r => uptoBulkEntry x + uptoBulkEntries r
def uptoBulkEntry {H : Type} : Lit × DataW H → Nat
  | (.string bytes, d) => bytes.length + uptoBulk d + 1
  | (_, d) => uptoBulk d + 1
 end
def uptoSmall : (H : Type) → List (DataW H) → Bool := fun _ ds => decide (uptoBulkAll ds ≤ 1048576)
def OpenSpec.upto (s : _root_.Go.ChangeSpec) : _root_.Go.OpenSpec := { _root_.Go.OpenSpec.ofChange s with cond := some uptoSmall }

/-- 'rootstocklaw07.LeafEncodes', WHERE WHAT IT READS IS OF BULK AT MOST 1048576: true; the input reads as it did. -/
def leafEncodesUptoRow : OpenClaim := { program := "ytmfmpbeempjeoaa", sum := "1b66df4954f87624f754f00a3f323f20fa17887a9b19e27dd428bc02a6c4b879", func := "rootstock/rootstocklaw07.LeafEncodes", spec := "leafEncodes", unfollowed := true, recurses := true, apart := false, narrowed := true }
def LeafEncodesUptoSaid : Prop := leafEncodesUptoRow.holds Try.pinned (OpenSpec.upto leafEncodesSpec)

/-- 'rootstocklaw07.LeafSizes', WHERE WHAT IT READS IS OF BULK AT MOST 1048576: true; the input reads as it did. -/
def leafSizesUptoRow : OpenClaim := { program := "ytmfmpbeempjeoaa", sum := "1b66df4954f87624f754f00a3f323f20fa17887a9b19e27dd428bc02a6c4b879", func := "rootstock/rootstocklaw07.LeafSizes", spec := "leafSizes", unfollowed := true, recurses := true, apart := false, narrowed := true }
def LeafSizesUptoSaid : Prop := leafSizesUptoRow.holds Try.pinned (OpenSpec.upto leafSizesSpec)

/-- 'rootstocklaw07.LeafDecodes', WHERE WHAT IT READS IS OF BULK AT MOST 1048576: true; the input reads as it did. -/
def leafDecodesUptoRow : OpenClaim := { program := "ytmfmpbeempjeoaa", sum := "1b66df4954f87624f754f00a3f323f20fa17887a9b19e27dd428bc02a6c4b879", func := "rootstock/rootstocklaw07.LeafDecodes", spec := "leafDecodes", unfollowed := true, recurses := true, apart := false, narrowed := true }
def LeafDecodesUptoSaid : Prop := leafDecodesUptoRow.holds Try.pinned (OpenSpec.upto leafDecodesSpec)

/-- 'rootstocklaw07.LeafBack', WHERE WHAT IT READS IS OF BULK AT MOST 1048576: true; the input reads as it did. -/
def leafBackUptoRow : OpenClaim := { program := "ytmfmpbeempjeoaa", sum := "1b66df4954f87624f754f00a3f323f20fa17887a9b19e27dd428bc02a6c4b879", func := "rootstock/rootstocklaw07.LeafBack", spec := "leafBack", unfollowed := true, recurses := true, apart := false, narrowed := true }
def LeafBackUptoSaid : Prop := leafBackUptoRow.holds Try.pinned (OpenSpec.upto leafBackSpec)

/-- 'rootstocklaw07.LeafKeeps', WHERE WHAT IT READS IS OF BULK AT MOST 1048576: true; the input reads as it did. -/
def leafKeepsUptoRow : OpenClaim := { program := "ytmfmpbeempjeoaa", sum := "1b66df4954f87624f754f00a3f323f20fa17887a9b19e27dd428bc02a6c4b879", func := "rootstock/rootstocklaw07.LeafKeeps", spec := "leafKeeps", unfollowed := true, recurses := true, apart := false, narrowed := true }
def LeafKeepsUptoSaid : Prop := leafKeepsUptoRow.holds Try.pinned (OpenSpec.upto leafKeepsSpec)

end Rows
end Go.Proofs.Ytmfmpbeempjeoaa
