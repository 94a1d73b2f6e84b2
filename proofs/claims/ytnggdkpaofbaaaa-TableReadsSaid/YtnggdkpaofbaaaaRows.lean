/-
  No cell of these rows narrows 'for every input' (looked for: loops, veiled, ifaces, maps, wideKeys, modest, calm, conditions, laid).
  DERIVED. THE GIVEN ROWS OF THIS SEAT. 4 by the template 'for every input the law returns true; each argument reads behind the call as it read before'; 0 by the template 'total and deterministic' (their statements: YtnggdkpaofbaaaaTotals.lean).
  GIVEN WITH THE SEED: the statements are not yours to turn. If you find one false, say at which input.
  Laid BY PROGRAM, IN A SANDBOX (cutbox-rows.mjs): the forced cells as the released guide's own fill.sh prints them over the translation cf5738bd22898a4b… (all of the seat's roots in one cut). By AI agents, Wed Nov 11 2026. No macro, syntax, notation, axiom, sorry.
-/
import Derived.Test.YtnggdkpaofbaaaaChecked
import GoSem.Claim
import GoSem.ClaimJoined
import GoSem.ClaimMapViews
import Derived.JoinedTies
import Derived.KernelRfl
namespace Go.Proofs.Ytnggdkpaofbaaaa
/- THE CELL 'sum', in the pinned program and in every row, IS THE sha256 OF THE DUMP (.gsa) THAT YtnggdkpaofbaaaaProg.lean LOADS. Nothing in Lean hashes anything: it is a label: what it is worth is what the hold of that sum in a sandbox is worth. -/
noncomputable def Try.pinned : Pinned := { name := "ytnggdkpaofbaaaa", sum := "cf5738bd22898a4bd5a678ecd0cc10f444df2cfb3281d164ef35db5664a821b9", checked := Try.checked }
namespace Rows
def none {H : Type} : Left H := { results := [], args := [] }

/-- 'rootstocklaw10.TableSaves': WHATEVER THE INPUT: true; the input reads as it did. -/
def tableSavesSpec : ChangeSpec := { name := "tableSaves", fn := fun _ => fun
  | [d1, d2, d3, d4] => { results := [.lit (.bool true)], args := [d1, d2, d3, d4] }
  | _ => none }
def tableSavesRow : OpenClaim := { program := "ytnggdkpaofbaaaa", sum := "cf5738bd22898a4bd5a678ecd0cc10f444df2cfb3281d164ef35db5664a821b9", func := "rootstock/rootstocklaw10.TableSaves", spec := "tableSaves", inPlace := ["maps.clone"], unfollowed := true, recurses := true, plainKeys := false, apart := false }
def TableSavesSaid : Prop := tableSavesRow.holds Try.pinned (OpenSpec.ofChange tableSavesSpec)

/-- ITS FALSE NEIGHBOUR: 'it returns false'. Refute it at one input. -/
def tableSavesWrong : ChangeSpec := { name := "tableSaves", fn := fun _ => fun
  | [d1, d2, d3, d4] => { results := [.lit (.bool false)], args := [d1, d2, d3, d4] }
  | _ => none }
def TableSavesWrongFalsely : Prop := tableSavesRow.holds Try.pinned (OpenSpec.ofChange tableSavesWrong)

/-- 'rootstocklaw10.TableSizes': WHATEVER THE INPUT: true; the input reads as it did. -/
def tableSizesSpec : ChangeSpec := { name := "tableSizes", fn := fun _ => fun
  | [d] => { results := [.lit (.bool true)], args := [d] }
  | _ => none }
def tableSizesRow : OpenClaim := { program := "ytnggdkpaofbaaaa", sum := "cf5738bd22898a4bd5a678ecd0cc10f444df2cfb3281d164ef35db5664a821b9", func := "rootstock/rootstocklaw10.TableSizes", spec := "tableSizes", unfollowed := true, recurses := true, plainKeys := false, apart := false }
def TableSizesSaid : Prop := tableSizesRow.holds Try.pinned (OpenSpec.ofChange tableSizesSpec)

/-- ITS FALSE NEIGHBOUR: 'it returns false'. Refute it at one input. -/
def tableSizesWrong : ChangeSpec := { name := "tableSizes", fn := fun _ => fun
  | [d] => { results := [.lit (.bool false)], args := [d] }
  | _ => none }
def TableSizesWrongFalsely : Prop := tableSizesRow.holds Try.pinned (OpenSpec.ofChange tableSizesWrong)

/-- 'rootstocklaw10.TableOf': WHATEVER THE INPUT: true; the input reads as it did. -/
def tableOfSpec : ChangeSpec := { name := "tableOf", fn := fun _ => fun
  | [d1, d2] => { results := [.lit (.bool true)], args := [d1, d2] }
  | _ => none }
def tableOfRow : OpenClaim := { program := "ytnggdkpaofbaaaa", sum := "cf5738bd22898a4bd5a678ecd0cc10f444df2cfb3281d164ef35db5664a821b9", func := "rootstock/rootstocklaw10.TableOf", spec := "tableOf", unfollowed := true, recurses := true, plainKeys := false, apart := false }
def TableOfSaid : Prop := tableOfRow.holds Try.pinned (OpenSpec.ofChange tableOfSpec)

/-- ITS FALSE NEIGHBOUR: 'it returns false'. Refute it at one input. -/
def tableOfWrong : ChangeSpec := { name := "tableOf", fn := fun _ => fun
  | [d1, d2] => { results := [.lit (.bool false)], args := [d1, d2] }
  | _ => none }
def TableOfWrongFalsely : Prop := tableOfRow.holds Try.pinned (OpenSpec.ofChange tableOfWrong)

/-- 'rootstocklaw10.TableReads': WHATEVER THE INPUT: true; the input reads as it did. -/
def tableReadsSpec : ChangeSpec := { name := "tableReads", fn := fun _ => fun
  | [d1, d2, d3] => { results := [.lit (.bool true)], args := [d1, d2, d3] }
  | _ => none }
def tableReadsRow : OpenClaim := { program := "ytnggdkpaofbaaaa", sum := "cf5738bd22898a4bd5a678ecd0cc10f444df2cfb3281d164ef35db5664a821b9", func := "rootstock/rootstocklaw10.TableReads", spec := "tableReads", unfollowed := true, recurses := true, plainKeys := false, apart := false }
def TableReadsSaid : Prop := tableReadsRow.holds Try.pinned (OpenSpec.ofChange tableReadsSpec)

/-- ITS FALSE NEIGHBOUR: 'it returns false'. Refute it at one input. -/
def tableReadsWrong : ChangeSpec := { name := "tableReads", fn := fun _ => fun
  | [d1, d2, d3] => { results := [.lit (.bool false)], args := [d1, d2, d3] }
  | _ => none }
def TableReadsWrongFalsely : Prop := tableReadsRow.holds Try.pinned (OpenSpec.ofChange tableReadsWrong)

/- THE SECOND FORM. 'bulk': how many values and letters a reading holds, each counted each time it is reached (what is shared counts as often as it is met; a slice's spare places count too). A statement '..UptoSaid' is the law's where the arguments, and the package variables that the reading takes, are together of bulk at most 1048576: NARROWER than '..Said'. Prove '..Said' where nothing that the law and all that it calls make is longer than what came in: it says more and counts as full. Else prove '..UptoSaid'. A law counts once. -/
mutual
def uptoBulk {H : Type} : DataW H → Nat
  | .lit (.string bytes) => bytes.length + 1
  | .lit _ => 1
  | .nil => 1
  | .ptr d => uptoBulk d + 1
  | .slice elems spare => uptoBulkAll elems + uptoBulkAll spare + 1
  | .agg parts => uptoBulkAll parts + 1
  | .iface _ d => uptoBulk d + 1
  | .map entries => uptoBulkEntries entries + 1
  | .held _ => 1
def uptoBulkAll {H : Type} : List (DataW H) → Nat
  | [] => 0
  | d :: r => uptoBulk d + uptoBulkAll r
def uptoBulkEntries {H : Type} : List (Lit × DataW H) → Nat
  | [] => 0
  | x :: r => uptoBulkEntry x + uptoBulkEntries r
def uptoBulkEntry {H : Type} : Lit × DataW H → Nat
  | (.string bytes, d) => bytes.length + uptoBulk d + 1
  | (_, d) => uptoBulk d + 1
 end
def uptoSmall : (H : Type) → List (DataW H) → Bool := fun _ ds => decide (uptoBulkAll ds ≤ 1048576)
def OpenSpec.upto (s : _root_.Go.ChangeSpec) : _root_.Go.OpenSpec := { _root_.Go.OpenSpec.ofChange s with cond := some uptoSmall }

/-- 'rootstocklaw10.TableSaves', WHERE WHAT IT READS IS OF BULK AT MOST 1048576: true; the input reads as it did. -/
def tableSavesUptoRow : OpenClaim := { program := "ytnggdkpaofbaaaa", sum := "cf5738bd22898a4bd5a678ecd0cc10f444df2cfb3281d164ef35db5664a821b9", func := "rootstock/rootstocklaw10.TableSaves", spec := "tableSaves", inPlace := ["maps.clone"], unfollowed := true, recurses := true, plainKeys := false, apart := false, narrowed := true }
def TableSavesUptoSaid : Prop := tableSavesUptoRow.holds Try.pinned (OpenSpec.upto tableSavesSpec)

/-- 'rootstocklaw10.TableSizes', WHERE WHAT IT READS IS OF BULK AT MOST 1048576: true; the input reads as it did. -/
def tableSizesUptoRow : OpenClaim := { program := "ytnggdkpaofbaaaa", sum := "cf5738bd22898a4bd5a678ecd0cc10f444df2cfb3281d164ef35db5664a821b9", func := "rootstock/rootstocklaw10.TableSizes", spec := "tableSizes", unfollowed := true, recurses := true, plainKeys := false, apart := false, narrowed := true }
def TableSizesUptoSaid : Prop := tableSizesUptoRow.holds Try.pinned (OpenSpec.upto tableSizesSpec)

/-- 'rootstocklaw10.TableOf', WHERE WHAT IT READS IS OF BULK AT MOST 1048576: true; the input reads as it did. -/
def tableOfUptoRow : OpenClaim := { program := "ytnggdkpaofbaaaa", sum := "cf5738bd22898a4bd5a678ecd0cc10f444df2cfb3281d164ef35db5664a821b9", func := "rootstock/rootstocklaw10.TableOf", spec := "tableOf", unfollowed := true, recurses := true, plainKeys := false, apart := false, narrowed := true }
def TableOfUptoSaid : Prop := tableOfUptoRow.holds Try.pinned (OpenSpec.upto tableOfSpec)

/-- 'rootstocklaw10.TableReads', WHERE WHAT IT READS IS OF BULK AT MOST 1048576: true; the input reads as it did. -/
def tableReadsUptoRow : OpenClaim := { program := "ytnggdkpaofbaaaa", sum := "cf5738bd22898a4bd5a678ecd0cc10f444df2cfb3281d164ef35db5664a821b9", func := "rootstock/rootstocklaw10.TableReads", spec := "tableReads", unfollowed := true, recurses := true, plainKeys := false, apart := false, narrowed := true }
def TableReadsUptoSaid : Prop := tableReadsUptoRow.holds Try.pinned (OpenSpec.upto tableReadsSpec)

end Rows
end Go.Proofs.Ytnggdkpaofbaaaa
