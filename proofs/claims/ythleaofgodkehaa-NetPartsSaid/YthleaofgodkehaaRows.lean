/-
  No cell of these rows narrows 'for every input' (looked for: loops, veiled, ifaces, maps, wideKeys, modest, calm, conditions, laid).
  DERIVED. THE GIVEN ROWS OF THIS SEAT. 5 by the template 'for every input the law returns true; each argument reads behind the call as it read before'; 0 by the template 'total and deterministic' (their statements: YthleaofgodkehaaTotals.lean).
  GIVEN WITH THE SEED: the statements are not yours to turn. If you find one false, say at which input.
  Laid BY PROGRAM, IN A SANDBOX (cutbox-rows.mjs): the forced cells as the released guide's own fill.sh prints them over the translation 78276421bc76f97f… (all of the seat's roots in one cut). By AI agents, Wed Nov 11 2026. No macro, syntax, notation, axiom, sorry.
-/
import Derived.Test.YthleaofgodkehaaChecked
import GoSem.Claim
import GoSem.ClaimJoined
import GoSem.ClaimMapViews
import Derived.JoinedTies
import Derived.KernelRfl
namespace Go.Proofs.Ythleaofgodkehaa
/- THE CELL 'sum', in the pinned program and in every row, IS THE sha256 OF THE DUMP (.gsa) THAT YthleaofgodkehaaProg.lean LOADS. Nothing in Lean hashes anything: it is a label: what it is worth is what the hold of that sum in a sandbox is worth. -/
noncomputable def Try.pinned : Pinned := { name := "ythleaofgodkehaa", sum := "78276421bc76f97f4eafc6de22ec3f8a01bb2bf07f29f4fa27c81a69c78db616", checked := Try.checked }
namespace Rows
def none {H : Type} : Left H := { results := [], args := [] }

/-- 'rootstocklaw22.NetAsks': WHATEVER THE INPUT: true; the input reads as it did. -/
def netAsksSpec : ChangeSpec := { name := "netAsks", fn := fun _ => fun
  | [d1, d2, d3] => { results := [.lit (.bool true)], args := [d1, d2, d3] }
  | _ => none }
def netAsksRow : OpenClaim := { program := "ythleaofgodkehaa", sum := "78276421bc76f97f4eafc6de22ec3f8a01bb2bf07f29f4fa27c81a69c78db616", func := "rootstock/rootstocklaw22.NetAsks", spec := "netAsks", unfollowed := true, recurses := true, plainKeys := false, apart := false }
def NetAsksSaid : Prop := netAsksRow.holds Try.pinned (OpenSpec.ofChange netAsksSpec)

/-- ITS FALSE NEIGHBOUR: 'it returns false'. Refute it at one input. -/
def netAsksWrong : ChangeSpec := { name := "netAsks", fn := fun _ => fun
  | [d1, d2, d3] => { results := [.lit (.bool false)], args := [d1, d2, d3] }
  | _ => none }
def NetAsksWrongFalsely : Prop := netAsksRow.holds Try.pinned (OpenSpec.ofChange netAsksWrong)

/-- 'rootstocklaw22.NetWhole': WHATEVER THE INPUT: true; the input reads as it did. -/
def netWholeSpec : ChangeSpec := { name := "netWhole", fn := fun _ => fun
  | [d1, d2, d3] => { results := [.lit (.bool true)], args := [d1, d2, d3] }
  | _ => none }
def netWholeRow : OpenClaim := { program := "ythleaofgodkehaa", sum := "78276421bc76f97f4eafc6de22ec3f8a01bb2bf07f29f4fa27c81a69c78db616", func := "rootstock/rootstocklaw22.NetWhole", spec := "netWhole", unfollowed := true, recurses := true, plainKeys := false, apart := false }
def NetWholeSaid : Prop := netWholeRow.holds Try.pinned (OpenSpec.ofChange netWholeSpec)

/-- ITS FALSE NEIGHBOUR: 'it returns false'. Refute it at one input. -/
def netWholeWrong : ChangeSpec := { name := "netWhole", fn := fun _ => fun
  | [d1, d2, d3] => { results := [.lit (.bool false)], args := [d1, d2, d3] }
  | _ => none }
def NetWholeWrongFalsely : Prop := netWholeRow.holds Try.pinned (OpenSpec.ofChange netWholeWrong)

/-- 'rootstocklaw22.NetKeeps': WHATEVER THE INPUT: true; the input reads as it did. -/
def netKeepsSpec : ChangeSpec := { name := "netKeeps", fn := fun _ => fun
  | [d1, d2] => { results := [.lit (.bool true)], args := [d1, d2] }
  | _ => none }
def netKeepsRow : OpenClaim := { program := "ythleaofgodkehaa", sum := "78276421bc76f97f4eafc6de22ec3f8a01bb2bf07f29f4fa27c81a69c78db616", func := "rootstock/rootstocklaw22.NetKeeps", spec := "netKeeps", unfollowed := true, recurses := true, plainKeys := false, apart := false }
def NetKeepsSaid : Prop := netKeepsRow.holds Try.pinned (OpenSpec.ofChange netKeepsSpec)

/-- ITS FALSE NEIGHBOUR: 'it returns false'. Refute it at one input. -/
def netKeepsWrong : ChangeSpec := { name := "netKeeps", fn := fun _ => fun
  | [d1, d2] => { results := [.lit (.bool false)], args := [d1, d2] }
  | _ => none }
def NetKeepsWrongFalsely : Prop := netKeepsRow.holds Try.pinned (OpenSpec.ofChange netKeepsWrong)

/-- 'rootstocklaw22.NetParts': WHATEVER THE INPUT: true; the input reads as it did. -/
def netPartsSpec : ChangeSpec := { name := "netParts", fn := fun _ => fun
  | [d1, d2] => { results := [.lit (.bool true)], args := [d1, d2] }
  | _ => none }
def netPartsRow : OpenClaim := { program := "ythleaofgodkehaa", sum := "78276421bc76f97f4eafc6de22ec3f8a01bb2bf07f29f4fa27c81a69c78db616", func := "rootstock/rootstocklaw22.NetParts", spec := "netParts", unfollowed := true, recurses := true, plainKeys := false, apart := false }
def NetPartsSaid : Prop := netPartsRow.holds Try.pinned (OpenSpec.ofChange netPartsSpec)

/-- ITS FALSE NEIGHBOUR: 'it returns false'. Refute it at one input. -/
def netPartsWrong : ChangeSpec := { name := "netParts", fn := fun _ => fun
  | [d1, d2] => { results := [.lit (.bool false)], args := [d1, d2] }
  | _ => none }
def NetPartsWrongFalsely : Prop := netPartsRow.holds Try.pinned (OpenSpec.ofChange netPartsWrong)

/-- 'rootstocklaw22.NetTwins': WHATEVER THE INPUT: true; the input reads as it did. -/
def netTwinsSpec : ChangeSpec := { name := "netTwins", fn := fun _ => fun
  | [d1, d2, d3] => { results := [.lit (.bool true)], args := [d1, d2, d3] }
  | _ => none }
def netTwinsRow : OpenClaim := { program := "ythleaofgodkehaa", sum := "78276421bc76f97f4eafc6de22ec3f8a01bb2bf07f29f4fa27c81a69c78db616", func := "rootstock/rootstocklaw22.NetTwins", spec := "netTwins", unfollowed := true, recurses := true, plainKeys := false, apart := false }
def NetTwinsSaid : Prop := netTwinsRow.holds Try.pinned (OpenSpec.ofChange netTwinsSpec)

/-- ITS FALSE NEIGHBOUR: 'it returns false'. Refute it at one input. -/
def netTwinsWrong : ChangeSpec := { name := "netTwins", fn := fun _ => fun
  | [d1, d2, d3] => { results := [.lit (.bool false)], args := [d1, d2, d3] }
  | _ => none }
def NetTwinsWrongFalsely : Prop := netTwinsRow.holds Try.pinned (OpenSpec.ofChange netTwinsWrong)

/- THE SECOND FORM. 'bulk': how many values and letters a reading holds, each counted each time it is reached (what is shared counts as often as it is met; a slice's spare places count too). A statement '..UptoSaid' is the law's where the arguments, and the package variables that the reading takes, are together of bulk at most 1048576: NARROWER than '..Said'. Prove '..Said' where nothing that the law and all that it calls make is longer than what came in: it says more and counts as full. Else prove '..UptoSaid'. A law counts once. -/
mutual
def uptoBulk {H : Type} : DataW H → Nat
  | .lit (.string bytes) => bytes.length + 1
  | .lit _ => 1
  | .nil => 1
  | .ptr d => uptoBulk d + 1
  | .slice elems spare => uptoBulkAll elems + uptoBulkAll spare + 1
  | .agg parts => uptoBulkAll parts + 1
  | .iface _ d => uptoBulk d + 1
  | .map entries => uptoBulkEntries entries + 1
  | .held _ => 1
def uptoBulkAll {H : Type} : List (DataW H) → Nat
  | [] => 0
  | d :: r => uptoBulk d + uptoBulkAll r
def uptoBulkEntries {H : Type} : List (Lit × DataW H) → Nat
  | [] => 0
  | x :: r => uptoBulkEntry x + uptoBulkEntries r
def uptoBulkEntry {H : Type} : Lit × DataW H → Nat
  | (.string bytes, d) => bytes.length + uptoBulk d + 1
  | (_, d) => uptoBulk d + 1
 end
def uptoSmall : (H : Type) → List (DataW H) → Bool := fun _ ds => decide (uptoBulkAll ds ≤ 1048576)
def OpenSpec.upto (s : _root_.Go.ChangeSpec) : _root_.Go.OpenSpec := { _root_.Go.OpenSpec.ofChange s with cond := some uptoSmall }

/-- 'rootstocklaw22.NetAsks', WHERE WHAT IT READS IS OF BULK AT MOST 1048576: true; the input reads as it did. -/
def netAsksUptoRow : OpenClaim := { program := "ythleaofgodkehaa", sum := "78276421bc76f97f4eafc6de22ec3f8a01bb2bf07f29f4fa27c81a69c78db616", func := "rootstock/rootstocklaw22.NetAsks", spec := "netAsks", unfollowed := true, recurses := true, plainKeys := false, apart := false, narrowed := true }
def NetAsksUptoSaid : Prop := netAsksUptoRow.holds Try.pinned (OpenSpec.upto netAsksSpec)

/-- 'rootstocklaw22.NetWhole', WHERE WHAT IT READS IS OF BULK AT MOST 1048576: true; the input reads as it did. -/
def netWholeUptoRow : OpenClaim := { program := "ythleaofgodkehaa", sum := "78276421bc76f97f4eafc6de22ec3f8a01bb2bf07f29f4fa27c81a69c78db616", func := "rootstock/rootstocklaw22.NetWhole", spec := "netWhole", unfollowed := true, recurses := true, plainKeys := false, apart := false, narrowed := true }
def NetWholeUptoSaid : Prop := netWholeUptoRow.holds Try.pinned (OpenSpec.upto netWholeSpec)

/-- 'rootstocklaw22.NetKeeps', WHERE WHAT IT READS IS OF BULK AT MOST 1048576: true; the input reads as it did. -/
def netKeepsUptoRow : OpenClaim := { program := "ythleaofgodkehaa", sum := "78276421bc76f97f4eafc6de22ec3f8a01bb2bf07f29f4fa27c81a69c78db616", func := "rootstock/rootstocklaw22.NetKeeps", spec := "netKeeps", unfollowed := true, recurses := true, plainKeys := false, apart := false, narrowed := true }
def NetKeepsUptoSaid : Prop := netKeepsUptoRow.holds Try.pinned (OpenSpec.upto netKeepsSpec)

/-- 'rootstocklaw22.NetParts', WHERE WHAT IT READS IS OF BULK AT MOST 1048576: true; the input reads as it did. -/
def netPartsUptoRow : OpenClaim := { program := "ythleaofgodkehaa", sum := "78276421bc76f97f4eafc6de22ec3f8a01bb2bf07f29f4fa27c81a69c78db616", func := "rootstock/rootstocklaw22.NetParts", spec := "netParts", unfollowed := true, recurses := true, plainKeys := false, apart := false, narrowed := true }
def NetPartsUptoSaid : Prop := netPartsUptoRow.holds Try.pinned (OpenSpec.upto netPartsSpec)

/-- 'rootstocklaw22.NetTwins', WHERE WHAT IT READS IS OF BULK AT MOST 1048576: true; the input reads as it did. -/
def netTwinsUptoRow : OpenClaim := { program := "ythleaofgodkehaa", sum := "78276421bc76f97f4eafc6de22ec3f8a01bb2bf07f29f4fa27c81a69c78db616", func := "rootstock/rootstocklaw22.NetTwins", spec := "netTwins", unfollowed := true, recurses := true, plainKeys := false, apart := false, narrowed := true }
def NetTwinsUptoSaid : Prop := netTwinsUptoRow.holds Try.pinned (OpenSpec.upto netTwinsSpec)

end Rows
end Go.Proofs.Ythleaofgodkehaa
