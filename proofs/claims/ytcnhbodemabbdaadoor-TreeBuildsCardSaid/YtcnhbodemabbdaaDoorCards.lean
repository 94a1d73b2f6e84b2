/-
  DERIVED. GIVEN WITH THE SEED: THE CARDS: each row of YtcnhbodemabbdaaDoorRows.lean that lists a variable, with what it lists TIED to the program's text (the seventh form; the later family's looks); each row that meets fmt, with fmt's text TOLD by the authors' own Lean function (tested against real Go, not proved from fmt's source: count such statements apart). THE CARD IS WHAT COUNTS. Prove the row's statement (the work); the ties are given (YtcnhbodemabbdaaDoorTie.lean); close each card by the builder's one call (the guide's Derived/Test/ToyasCard.lean, 'card_holds'). Laid BY PROGRAM, IN A SANDBOX (cutbox-door.mjs). By AI agents, Wed Nov 11 2026. No macro, syntax, notation, axiom, sorry.
-/
import Derived.Test.YtcnhbodemabbdaaDoorRows
import GoSem.ClaimSeven
namespace Go.Proofs.YtcnhbodemabbdaaDoor
namespace Rows

/-- THE TIED CARD OF 'rootstocklaw16.TreeBuilds'. -/
def treeBuildsCard : Claim7 := { stood := { row := treeBuildsRow, standIns := [], harness := (true, "e0588544bb4d7fd2c0a3b0cf20d8933ca20915c949832b7abfff4960f196cf4e"), looks := false }, kinds := [], alts := [], laidByText := true, laidKinds := [.data], laidTests := true, laidLooks := .later }
def TreeBuildsCardSaid : Prop := Claim7.holds Tryd.pinned (.plain (OpenSpec.ofChange treeBuildsSpec)) treeBuildsCard

/-- THE TIED CARD OF 'rootstocklaw16.TreeCounts'. -/
def treeCountsCard : Claim7 := { stood := { row := treeCountsRow, standIns := [], harness := (true, "e0588544bb4d7fd2c0a3b0cf20d8933ca20915c949832b7abfff4960f196cf4e"), looks := false }, kinds := [], alts := [], laidByText := true, laidKinds := [.data], laidTests := true, laidLooks := .later }
def TreeCountsCardSaid : Prop := Claim7.holds Tryd.pinned (.plain (OpenSpec.ofChange treeCountsSpec)) treeCountsCard

/-- THE TIED CARD OF 'rootstocklaw17.DagReads'. -/
def dagReadsCard : Claim7 := { stood := { row := dagReadsRow, standIns := [], harness := (true, "e0588544bb4d7fd2c0a3b0cf20d8933ca20915c949832b7abfff4960f196cf4e"), looks := false }, kinds := [], alts := [], laidByText := true, laidKinds := [.data], laidTests := true, laidLooks := .later }
def DagReadsCardSaid : Prop := Claim7.holds Tryd.pinned (.plain (OpenSpec.ofChange dagReadsSpec)) dagReadsCard

/-- THE TIED CARD OF 'rootstocklaw17.DagJoins'. -/
def dagJoinsCard : Claim7 := { stood := { row := dagJoinsRow, standIns := [], harness := (true, "e0588544bb4d7fd2c0a3b0cf20d8933ca20915c949832b7abfff4960f196cf4e"), looks := false }, kinds := [], alts := [], laidByText := true, laidKinds := [.data], laidTests := true, laidLooks := .later }
def DagJoinsCardSaid : Prop := Claim7.holds Tryd.pinned (.plain (OpenSpec.ofChange dagJoinsSpec)) dagJoinsCard

/-- THE TIED CARD OF 'rootstocklaw17.DagBases'. -/
def dagBasesCard : Claim7 := { stood := { row := dagBasesRow, standIns := [], harness := (true, "e0588544bb4d7fd2c0a3b0cf20d8933ca20915c949832b7abfff4960f196cf4e"), looks := false }, kinds := [], alts := [], laidByText := true, laidKinds := [.data], laidTests := true, laidLooks := .later }
def DagBasesCardSaid : Prop := Claim7.holds Tryd.pinned (.plain (OpenSpec.ofChange dagBasesSpec)) dagBasesCard

/-- THE TIED CARD OF 'rootstocklaw17.DagBase'. -/
def dagBaseCard : Claim7 := { stood := { row := dagBaseRow, standIns := [], harness := (true, "e0588544bb4d7fd2c0a3b0cf20d8933ca20915c949832b7abfff4960f196cf4e"), looks := false }, kinds := [], alts := [], laidByText := true, laidKinds := [.data], laidTests := true, laidLooks := .later }
def DagBaseCardSaid : Prop := Claim7.holds Tryd.pinned (.plain (OpenSpec.ofChange dagBaseSpec)) dagBaseCard

/-- THE TIED CARD OF 'rootstocklaw17.DagOrders'. -/
def dagOrdersCard : Claim7 := { stood := { row := dagOrdersRow, standIns := [], harness := (true, "e0588544bb4d7fd2c0a3b0cf20d8933ca20915c949832b7abfff4960f196cf4e"), looks := false }, kinds := [], alts := [], laidByText := true, laidKinds := [.data], laidTests := true, laidLooks := .later }
def DagOrdersCardSaid : Prop := Claim7.holds Tryd.pinned (.plain (OpenSpec.ofChange dagOrdersSpec)) dagOrdersCard

/-- THE SECOND FORM's CARD OF 'rootstocklaw16.TreeBuilds'. -/
def treeBuildsUptoCard : Claim7 := { stood := { row := treeBuildsUptoRow, standIns := [], harness := (true, "e0588544bb4d7fd2c0a3b0cf20d8933ca20915c949832b7abfff4960f196cf4e"), looks := false }, kinds := [], alts := [], laidByText := true, laidKinds := [.data], laidTests := true, laidLooks := .later }
def TreeBuildsUptoCardSaid : Prop := Claim7.holds Tryd.pinned (.plain (OpenSpec.upto treeBuildsSpec)) treeBuildsUptoCard

/-- THE SECOND FORM's CARD OF 'rootstocklaw16.TreeCounts'. -/
def treeCountsUptoCard : Claim7 := { stood := { row := treeCountsUptoRow, standIns := [], harness := (true, "e0588544bb4d7fd2c0a3b0cf20d8933ca20915c949832b7abfff4960f196cf4e"), looks := false }, kinds := [], alts := [], laidByText := true, laidKinds := [.data], laidTests := true, laidLooks := .later }
def TreeCountsUptoCardSaid : Prop := Claim7.holds Tryd.pinned (.plain (OpenSpec.upto treeCountsSpec)) treeCountsUptoCard

/-- THE SECOND FORM's CARD OF 'rootstocklaw17.DagReads'. -/
def dagReadsUptoCard : Claim7 := { stood := { row := dagReadsUptoRow, standIns := [], harness := (true, "e0588544bb4d7fd2c0a3b0cf20d8933ca20915c949832b7abfff4960f196cf4e"), looks := false }, kinds := [], alts := [], laidByText := true, laidKinds := [.data], laidTests := true, laidLooks := .later }
def DagReadsUptoCardSaid : Prop := Claim7.holds Tryd.pinned (.plain (OpenSpec.upto dagReadsSpec)) dagReadsUptoCard

/-- THE SECOND FORM's CARD OF 'rootstocklaw17.DagJoins'. -/
def dagJoinsUptoCard : Claim7 := { stood := { row := dagJoinsUptoRow, standIns := [], harness := (true, "e0588544bb4d7fd2c0a3b0cf20d8933ca20915c949832b7abfff4960f196cf4e"), looks := false }, kinds := [], alts := [], laidByText := true, laidKinds := [.data], laidTests := true, laidLooks := .later }
def DagJoinsUptoCardSaid : Prop := Claim7.holds Tryd.pinned (.plain (OpenSpec.upto dagJoinsSpec)) dagJoinsUptoCard

/-- THE SECOND FORM's CARD OF 'rootstocklaw17.DagBases'. -/
def dagBasesUptoCard : Claim7 := { stood := { row := dagBasesUptoRow, standIns := [], harness := (true, "e0588544bb4d7fd2c0a3b0cf20d8933ca20915c949832b7abfff4960f196cf4e"), looks := false }, kinds := [], alts := [], laidByText := true, laidKinds := [.data], laidTests := true, laidLooks := .later }
def DagBasesUptoCardSaid : Prop := Claim7.holds Tryd.pinned (.plain (OpenSpec.upto dagBasesSpec)) dagBasesUptoCard

/-- THE SECOND FORM's CARD OF 'rootstocklaw17.DagBase'. -/
def dagBaseUptoCard : Claim7 := { stood := { row := dagBaseUptoRow, standIns := [], harness := (true, "e0588544bb4d7fd2c0a3b0cf20d8933ca20915c949832b7abfff4960f196cf4e"), looks := false }, kinds := [], alts := [], laidByText := true, laidKinds := [.data], laidTests := true, laidLooks := .later }
def DagBaseUptoCardSaid : Prop := Claim7.holds Tryd.pinned (.plain (OpenSpec.upto dagBaseSpec)) dagBaseUptoCard

/-- THE SECOND FORM's CARD OF 'rootstocklaw17.DagOrders'. -/
def dagOrdersUptoCard : Claim7 := { stood := { row := dagOrdersUptoRow, standIns := [], harness := (true, "e0588544bb4d7fd2c0a3b0cf20d8933ca20915c949832b7abfff4960f196cf4e"), looks := false }, kinds := [], alts := [], laidByText := true, laidKinds := [.data], laidTests := true, laidLooks := .later }
def DagOrdersUptoCardSaid : Prop := Claim7.holds Tryd.pinned (.plain (OpenSpec.upto dagOrdersSpec)) dagOrdersUptoCard
end Rows
end Go.Proofs.YtcnhbodemabbdaaDoor
