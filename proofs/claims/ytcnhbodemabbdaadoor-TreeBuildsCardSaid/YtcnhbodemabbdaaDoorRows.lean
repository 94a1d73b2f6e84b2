/-
  NARROWER THAN 'FOR EVERY INPUT', by the rows' own cells (each row's printed sentence says how): TreeBuilds: laid · TreeCounts: laid · DagReads: laid · DagJoins: laid · DagBases: laid · DagBase: laid · DagOrders: laid.
  DERIVED. THE GIVEN ROWS OF THIS SEAT. 7 by the template 'for every input the law returns true; each argument reads behind the call as it read before'; 0 by the template 'total and deterministic' (their statements: YtcnhbodemabbdaaDoorTotals.lean).
  GIVEN WITH THE SEED: the statements are not yours to turn. If you find one false, say at which input.
  Laid BY PROGRAM, IN A SANDBOX (cutbox-rows.mjs): the forced cells as the released guide's own fill.sh prints them over the translation 84b2fc2228813d66… (all of the seat's roots in one cut). By AI agents, Wed Nov 11 2026. No macro, syntax, notation, axiom, sorry.
-/
import Derived.Test.YtcnhbodemabbdaaDoorChecked
import GoSem.Claim
import GoSem.ClaimJoined
import GoSem.ClaimMapViews
import Derived.JoinedTies
import Derived.KernelRfl
namespace Go.Proofs.YtcnhbodemabbdaaDoor
/- THE CELL 'sum', in the pinned program and in every row, IS THE sha256 OF THE DUMP (.gsa) THAT YtcnhbodemabbdaaDoorProg.lean LOADS. Nothing in Lean hashes anything: it is a label: what it is worth is what the hold of that sum in a sandbox is worth. -/
noncomputable def Tryd.pinned : Pinned := { name := "ytcnhbodemabbdaadoor", sum := "84b2fc2228813d663158212b4ee92911fb95388c93c20b6bdb42e25bdc198a5b", checked := Tryd.checked }
namespace Rows
def none {H : Type} : Left H := { results := [], args := [] }

/- WHAT THE LISTED PACKAGE-LEVEL VARIABLES READ AS WHEN THE CALL BEGINS. Each datum BY PROGRAM (the guide's laid-datum.mjs) off the statement by which the dump's own 'gosem.cut.vars' lays the variable. In a bare row this is a premise. The card (YtcnhbodemabbdaaDoorCards.lean) ties it to the program's text. -/
def laid_rootstock_sha_table {H : Type} : DataW H := .agg [.lit (.int .u32 1116352408), .lit (.int .u32 1899447441), .lit (.int .u32 3049323471), .lit (.int .u32 3921009573), .lit (.int .u32 961987163), .lit (.int .u32 1508970993), .lit (.int .u32 2453635748), .lit (.int .u32 2870763221), .lit (.int .u32 3624381080), .lit (.int .u32 310598401), .lit (.int .u32 607225278), .lit (.int .u32 1426881987), .lit (.int .u32 1925078388), .lit (.int .u32 2162078206), .lit (.int .u32 2614888103), .lit (.int .u32 3248222580), .lit (.int .u32 3835390401), .lit (.int .u32 4022224774), .lit (.int .u32 264347078), .lit (.int .u32 604807628), .lit (.int .u32 770255983), .lit (.int .u32 1249150122), .lit (.int .u32 1555081692), .lit (.int .u32 1996064986), .lit (.int .u32 2554220882), .lit (.int .u32 2821834349), .lit (.int .u32 2952996808), .lit (.int .u32 3210313671), .lit (.int .u32 3336571891), .lit (.int .u32 3584528711), .lit (.int .u32 113926993), .lit (.int .u32 338241895), .lit (.int .u32 666307205), .lit (.int .u32 773529912), .lit (.int .u32 1294757372), .lit (.int .u32 1396182291), .lit (.int .u32 1695183700), .lit (.int .u32 1986661051), .lit (.int .u32 2177026350), .lit (.int .u32 2456956037), .lit (.int .u32 2730485921), .lit (.int .u32 2820302411), .lit (.int .u32 3259730800), .lit (.int .u32 3345764771), .lit (.int .u32 3516065817), .lit (.int .u32 3600352804), .lit (.int .u32 4094571909), .lit (.int .u32 275423344), .lit (.int .u32 430227734), .lit (.int .u32 506948616), .lit (.int .u32 659060556), .lit (.int .u32 883997877), .lit (.int .u32 958139571), .lit (.int .u32 1322822218), .lit (.int .u32 1537002063), .lit (.int .u32 1747873779), .lit (.int .u32 1955562222), .lit (.int .u32 2024104815), .lit (.int .u32 2227730452), .lit (.int .u32 2361852424), .lit (.int .u32 2428436474), .lit (.int .u32 2756734187), .lit (.int .u32 3204031479), .lit (.int .u32 3329325298)]

/-- 'rootstocklaw16.TreeBuilds': WHATEVER THE INPUT: true; the input reads as it did. -/
def treeBuildsSpec : ChangeSpec := { name := "treeBuilds", fn := fun _ => fun
  | [d1, d2] => { results := [.lit (.bool true)], args := [d1, d2] }
  | _ => none }
def treeBuildsRow : OpenClaim := { program := "ytcnhbodemabbdaadoor", sum := "84b2fc2228813d663158212b4ee92911fb95388c93c20b6bdb42e25bdc198a5b", func := "rootstock/rootstocklaw16.TreeBuilds", spec := "treeBuilds", unfollowed := true, recurses := true, named := ["rootstock/sha.table"], plainKeys := false, apart := false, laid := [("rootstock/sha.table", laid_rootstock_sha_table)] }
def TreeBuildsSaid : Prop := treeBuildsRow.holds Tryd.pinned (OpenSpec.ofChange treeBuildsSpec)

/-- ITS FALSE NEIGHBOUR: 'it returns false'. Refute it at one input. -/
def treeBuildsWrong : ChangeSpec := { name := "treeBuilds", fn := fun _ => fun
  | [d1, d2] => { results := [.lit (.bool false)], args := [d1, d2] }
  | _ => none }
def TreeBuildsWrongFalsely : Prop := treeBuildsRow.holds Tryd.pinned (OpenSpec.ofChange treeBuildsWrong)

/-- 'rootstocklaw16.TreeCounts': WHATEVER THE INPUT: true; the input reads as it did. -/
def treeCountsSpec : ChangeSpec := { name := "treeCounts", fn := fun _ => fun
  | [d1, d2] => { results := [.lit (.bool true)], args := [d1, d2] }
  | _ => none }
def treeCountsRow : OpenClaim := { program := "ytcnhbodemabbdaadoor", sum := "84b2fc2228813d663158212b4ee92911fb95388c93c20b6bdb42e25bdc198a5b", func := "rootstock/rootstocklaw16.TreeCounts", spec := "treeCounts", unfollowed := true, recurses := true, named := ["rootstock/sha.table"], plainKeys := false, apart := false, laid := [("rootstock/sha.table", laid_rootstock_sha_table)] }
def TreeCountsSaid : Prop := treeCountsRow.holds Tryd.pinned (OpenSpec.ofChange treeCountsSpec)

/-- ITS FALSE NEIGHBOUR: 'it returns false'. Refute it at one input. -/
def treeCountsWrong : ChangeSpec := { name := "treeCounts", fn := fun _ => fun
  | [d1, d2] => { results := [.lit (.bool false)], args := [d1, d2] }
  | _ => none }
def TreeCountsWrongFalsely : Prop := treeCountsRow.holds Tryd.pinned (OpenSpec.ofChange treeCountsWrong)

/-- 'rootstocklaw17.DagReads': WHATEVER THE INPUT: true; the input reads as it did. -/
def dagReadsSpec : ChangeSpec := { name := "dagReads", fn := fun _ => fun
  | [d1, d2] => { results := [.lit (.bool true)], args := [d1, d2] }
  | _ => none }
def dagReadsRow : OpenClaim := { program := "ytcnhbodemabbdaadoor", sum := "84b2fc2228813d663158212b4ee92911fb95388c93c20b6bdb42e25bdc198a5b", func := "rootstock/rootstocklaw17.DagReads", spec := "dagReads", unfollowed := true, recurses := true, named := ["rootstock/sha.table"], plainKeys := false, apart := false, laid := [("rootstock/sha.table", laid_rootstock_sha_table)] }
def DagReadsSaid : Prop := dagReadsRow.holds Tryd.pinned (OpenSpec.ofChange dagReadsSpec)

/-- ITS FALSE NEIGHBOUR: 'it returns false'. Refute it at one input. -/
def dagReadsWrong : ChangeSpec := { name := "dagReads", fn := fun _ => fun
  | [d1, d2] => { results := [.lit (.bool false)], args := [d1, d2] }
  | _ => none }
def DagReadsWrongFalsely : Prop := dagReadsRow.holds Tryd.pinned (OpenSpec.ofChange dagReadsWrong)

/-- 'rootstocklaw17.DagJoins': WHATEVER THE INPUT: true; the input reads as it did. -/
def dagJoinsSpec : ChangeSpec := { name := "dagJoins", fn := fun _ => fun
  | [d1, d2, d3] => { results := [.lit (.bool true)], args := [d1, d2, d3] }
  | _ => none }
def dagJoinsRow : OpenClaim := { program := "ytcnhbodemabbdaadoor", sum := "84b2fc2228813d663158212b4ee92911fb95388c93c20b6bdb42e25bdc198a5b", func := "rootstock/rootstocklaw17.DagJoins", spec := "dagJoins", unfollowed := true, recurses := true, named := ["rootstock/sha.table"], plainKeys := false, apart := false, laid := [("rootstock/sha.table", laid_rootstock_sha_table)] }
def DagJoinsSaid : Prop := dagJoinsRow.holds Tryd.pinned (OpenSpec.ofChange dagJoinsSpec)

/-- ITS FALSE NEIGHBOUR: 'it returns false'. Refute it at one input. -/
def dagJoinsWrong : ChangeSpec := { name := "dagJoins", fn := fun _ => fun
  | [d1, d2, d3] => { results := [.lit (.bool false)], args := [d1, d2, d3] }
  | _ => none }
def DagJoinsWrongFalsely : Prop := dagJoinsRow.holds Tryd.pinned (OpenSpec.ofChange dagJoinsWrong)

/-- 'rootstocklaw17.DagBases': WHATEVER THE INPUT: true; the input reads as it did. -/
def dagBasesSpec : ChangeSpec := { name := "dagBases", fn := fun _ => fun
  | [d1, d2, d3] => { results := [.lit (.bool true)], args := [d1, d2, d3] }
  | _ => none }
def dagBasesRow : OpenClaim := { program := "ytcnhbodemabbdaadoor", sum := "84b2fc2228813d663158212b4ee92911fb95388c93c20b6bdb42e25bdc198a5b", func := "rootstock/rootstocklaw17.DagBases", spec := "dagBases", unfollowed := true, recurses := true, named := ["rootstock/sha.table"], plainKeys := false, apart := false, laid := [("rootstock/sha.table", laid_rootstock_sha_table)] }
def DagBasesSaid : Prop := dagBasesRow.holds Tryd.pinned (OpenSpec.ofChange dagBasesSpec)

/-- ITS FALSE NEIGHBOUR: 'it returns false'. Refute it at one input. -/
def dagBasesWrong : ChangeSpec := { name := "dagBases", fn := fun _ => fun
  | [d1, d2, d3] => { results := [.lit (.bool false)], args := [d1, d2, d3] }
  | _ => none }
def DagBasesWrongFalsely : Prop := dagBasesRow.holds Tryd.pinned (OpenSpec.ofChange dagBasesWrong)

/-- 'rootstocklaw17.DagBase': WHATEVER THE INPUT: true; the input reads as it did. -/
def dagBaseSpec : ChangeSpec := { name := "dagBase", fn := fun _ => fun
  | [d1, d2, d3] => { results := [.lit (.bool true)], args := [d1, d2, d3] }
  | _ => none }
def dagBaseRow : OpenClaim := { program := "ytcnhbodemabbdaadoor", sum := "84b2fc2228813d663158212b4ee92911fb95388c93c20b6bdb42e25bdc198a5b", func := "rootstock/rootstocklaw17.DagBase", spec := "dagBase", unfollowed := true, recurses := true, named := ["rootstock/sha.table"], plainKeys := false, apart := false, laid := [("rootstock/sha.table", laid_rootstock_sha_table)] }
def DagBaseSaid : Prop := dagBaseRow.holds Tryd.pinned (OpenSpec.ofChange dagBaseSpec)

/-- ITS FALSE NEIGHBOUR: 'it returns false'. Refute it at one input. -/
def dagBaseWrong : ChangeSpec := { name := "dagBase", fn := fun _ => fun
  | [d1, d2, d3] => { results := [.lit (.bool false)], args := [d1, d2, d3] }
  | _ => none }
def DagBaseWrongFalsely : Prop := dagBaseRow.holds Tryd.pinned (OpenSpec.ofChange dagBaseWrong)

/-- 'rootstocklaw17.DagOrders': WHATEVER THE INPUT: true; the input reads as it did. -/
def dagOrdersSpec : ChangeSpec := { name := "dagOrders", fn := fun _ => fun
  | [d1, d2, d3] => { results := [.lit (.bool true)], args := [d1, d2, d3] }
  | _ => none }
def dagOrdersRow : OpenClaim := { program := "ytcnhbodemabbdaadoor", sum := "84b2fc2228813d663158212b4ee92911fb95388c93c20b6bdb42e25bdc198a5b", func := "rootstock/rootstocklaw17.DagOrders", spec := "dagOrders", unfollowed := true, recurses := true, named := ["rootstock/sha.table"], plainKeys := false, apart := false, laid := [("rootstock/sha.table", laid_rootstock_sha_table)] }
def DagOrdersSaid : Prop := dagOrdersRow.holds Tryd.pinned (OpenSpec.ofChange dagOrdersSpec)

/-- ITS FALSE NEIGHBOUR: 'it returns false'. Refute it at one input. -/
def dagOrdersWrong : ChangeSpec := { name := "dagOrders", fn := fun _ => fun
  | [d1, d2, d3] => { results := [.lit (.bool false)], args := [d1, d2, d3] }
  | _ => none }
def DagOrdersWrongFalsely : Prop := dagOrdersRow.holds Tryd.pinned (OpenSpec.ofChange dagOrdersWrong)

/- THE SECOND FORM. 'bulk': how many values and letters a reading holds, each counted each time it is reached (what is shared counts as often as it is met; a slice's spare places count too). A statement '..UptoSaid' is the law's where the arguments, and the package variables that the reading takes, are together of bulk at most 1048576: NARROWER than '..Said'. Prove '..Said' where nothing that the law and all that it calls make is longer than what came in: it says more and counts as full. Else prove '..UptoSaid'. A law counts once. -/
mutual
def uptoBulk {H : Type} : DataW H → Nat
  | .lit (.string bytes) => bytes.length + 1
  | .lit _ => 1
  | .nil => 1
  | .ptr d => uptoBulk d + 1
  | .slice elems spare => uptoBulkAll elems + uptoBulkAll spare + 1
  | .agg parts => uptoBulkAll parts + 1
  | .iface _ d => uptoBulk d + 1
  | .map entries => uptoBulkEntries entries + 1
  | .held _ => 1
def uptoBulkAll {H : Type} : List (DataW H) → Nat
  | [] => 0
  | d :: r => uptoBulk d + uptoBulkAll r
def uptoBulkEntries {H : Type} : List (Lit × DataW H) → Nat
  | [] => 0
  | x :: r => uptoBulkEntry x + uptoBulkEntries r
def uptoBulkEntry {H : Type} : Lit × DataW H → Nat
  | (.string bytes, d) => bytes.length + uptoBulk d + 1
  | (_, d) => uptoBulk d + 1
 end
def uptoSmall : (H : Type) → List (DataW H) → Bool := fun _ ds => decide (uptoBulkAll ds ≤ 1048576)
def OpenSpec.upto (s : _root_.Go.ChangeSpec) : _root_.Go.OpenSpec := { _root_.Go.OpenSpec.ofChange s with cond := some uptoSmall }

/-- 'rootstocklaw16.TreeBuilds', WHERE WHAT IT READS IS OF BULK AT MOST 1048576: true; the input reads as it did. -/
def treeBuildsUptoRow : OpenClaim := { program := "ytcnhbodemabbdaadoor", sum := "84b2fc2228813d663158212b4ee92911fb95388c93c20b6bdb42e25bdc198a5b", func := "rootstock/rootstocklaw16.TreeBuilds", spec := "treeBuilds", unfollowed := true, recurses := true, named := ["rootstock/sha.table"], plainKeys := false, apart := false, laid := [("rootstock/sha.table", laid_rootstock_sha_table)], narrowed := true }
def TreeBuildsUptoSaid : Prop := treeBuildsUptoRow.holds Tryd.pinned (OpenSpec.upto treeBuildsSpec)

/-- 'rootstocklaw16.TreeCounts', WHERE WHAT IT READS IS OF BULK AT MOST 1048576: true; the input reads as it did. -/
def treeCountsUptoRow : OpenClaim := { program := "ytcnhbodemabbdaadoor", sum := "84b2fc2228813d663158212b4ee92911fb95388c93c20b6bdb42e25bdc198a5b", func := "rootstock/rootstocklaw16.TreeCounts", spec := "treeCounts", unfollowed := true, recurses := true, named := ["rootstock/sha.table"], plainKeys := false, apart := false, laid := [("rootstock/sha.table", laid_rootstock_sha_table)], narrowed := true }
def TreeCountsUptoSaid : Prop := treeCountsUptoRow.holds Tryd.pinned (OpenSpec.upto treeCountsSpec)

/-- 'rootstocklaw17.DagReads', WHERE WHAT IT READS IS OF BULK AT MOST 1048576: true; the input reads as it did. -/
def dagReadsUptoRow : OpenClaim := { program := "ytcnhbodemabbdaadoor", sum := "84b2fc2228813d663158212b4ee92911fb95388c93c20b6bdb42e25bdc198a5b", func := "rootstock/rootstocklaw17.DagReads", spec := "dagReads", unfollowed := true, recurses := true, named := ["rootstock/sha.table"], plainKeys := false, apart := false, laid := [("rootstock/sha.table", laid_rootstock_sha_table)], narrowed := true }
def DagReadsUptoSaid : Prop := dagReadsUptoRow.holds Tryd.pinned (OpenSpec.upto dagReadsSpec)

/-- 'rootstocklaw17.DagJoins', WHERE WHAT IT READS IS OF BULK AT MOST 1048576: true; the input reads as it did. -/
def dagJoinsUptoRow : OpenClaim := { program := "ytcnhbodemabbdaadoor", sum := "84b2fc2228813d663158212b4ee92911fb95388c93c20b6bdb42e25bdc198a5b", func := "rootstock/rootstocklaw17.DagJoins", spec := "dagJoins", unfollowed := true, recurses := true, named := ["rootstock/sha.table"], plainKeys := false, apart := false, laid := [("rootstock/sha.table", laid_rootstock_sha_table)], narrowed := true }
def DagJoinsUptoSaid : Prop := dagJoinsUptoRow.holds Tryd.pinned (OpenSpec.upto dagJoinsSpec)

/-- 'rootstocklaw17.DagBases', WHERE WHAT IT READS IS OF BULK AT MOST 1048576: true; the input reads as it did. -/
def dagBasesUptoRow : OpenClaim := { program := "ytcnhbodemabbdaadoor", sum := "84b2fc2228813d663158212b4ee92911fb95388c93c20b6bdb42e25bdc198a5b", func := "rootstock/rootstocklaw17.DagBases", spec := "dagBases", unfollowed := true, recurses := true, named := ["rootstock/sha.table"], plainKeys := false, apart := false, laid := [("rootstock/sha.table", laid_rootstock_sha_table)], narrowed := true }
def DagBasesUptoSaid : Prop := dagBasesUptoRow.holds Tryd.pinned (OpenSpec.upto dagBasesSpec)

/-- 'rootstocklaw17.DagBase', WHERE WHAT IT READS IS OF BULK AT MOST 1048576: true; the input reads as it did. -/
def dagBaseUptoRow : OpenClaim := { program := "ytcnhbodemabbdaadoor", sum := "84b2fc2228813d663158212b4ee92911fb95388c93c20b6bdb42e25bdc198a5b", func := "rootstock/rootstocklaw17.DagBase", spec := "dagBase", unfollowed := true, recurses := true, named := ["rootstock/sha.table"], plainKeys := false, apart := false, laid := [("rootstock/sha.table", laid_rootstock_sha_table)], narrowed := true }
def DagBaseUptoSaid : Prop := dagBaseUptoRow.holds Tryd.pinned (OpenSpec.upto dagBaseSpec)

/-- 'rootstocklaw17.DagOrders', WHERE WHAT IT READS IS OF BULK AT MOST 1048576: true; the input reads as it did. -/
def dagOrdersUptoRow : OpenClaim := { program := "ytcnhbodemabbdaadoor", sum := "84b2fc2228813d663158212b4ee92911fb95388c93c20b6bdb42e25bdc198a5b", func := "rootstock/rootstocklaw17.DagOrders", spec := "dagOrders", unfollowed := true, recurses := true, named := ["rootstock/sha.table"], plainKeys := false, apart := false, laid := [("rootstock/sha.table", laid_rootstock_sha_table)], narrowed := true }
def DagOrdersUptoSaid : Prop := dagOrdersUptoRow.holds Tryd.pinned (OpenSpec.upto dagOrdersSpec)

end Rows
end Go.Proofs.YtcnhbodemabbdaaDoor
