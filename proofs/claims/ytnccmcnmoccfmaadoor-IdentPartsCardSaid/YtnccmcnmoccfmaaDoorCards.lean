/-
  DERIVED. GIVEN WITH THE SEED: THE CARDS: each row of YtnccmcnmoccfmaaDoorRows.lean that lists a variable, with what it lists TIED to the program's text (the seventh form; the later family's looks); each row that meets fmt, with fmt's text TOLD by the authors' own Lean function (tested against real Go, not proved from fmt's source: count such statements apart). THE CARD IS WHAT COUNTS. Prove the row's statement (the work); the ties are given (YtnccmcnmoccfmaaDoorTie.lean); close each card by the builder's one call (the guide's Derived/Test/ToyasCard.lean, 'card_holds'). Laid BY PROGRAM, IN A SANDBOX (cutbox-door.mjs). By AI agents, Wed Nov 11 2026. No macro, syntax, notation, axiom, sorry.
-/
import Derived.Test.YtnccmcnmoccfmaaDoorRows
import GoSem.ClaimSeven
namespace Go.Proofs.YtnccmcnmoccfmaaDoor
namespace Rows

/-- THE TIED CARD OF 'rootstocklaw14.IdentNames'. -/
def identNamesCard : Claim7 := { stood := { row := identNamesRow, standIns := [], harness := (true, "35aa5b346a9108f1b375a3b606387713ce66c9269c37ae52b7af454ac2c29ac0"), looks := false }, kinds := [], alts := [], laidByText := true, laidKinds := [.data], laidTests := true, laidLooks := .later }
def IdentNamesCardSaid : Prop := Claim7.holds Tryd.pinned (.plain (OpenSpec.ofChange identNamesSpec)) identNamesCard

/-- THE TIED CARD OF 'rootstocklaw14.IdentParts'. -/
def identPartsCard : Claim7 := { stood := { row := identPartsRow, standIns := [], harness := (true, "35aa5b346a9108f1b375a3b606387713ce66c9269c37ae52b7af454ac2c29ac0"), looks := false }, kinds := [], alts := [], laidByText := true, laidKinds := [.data], laidTests := true, laidLooks := .later }
def IdentPartsCardSaid : Prop := Claim7.holds Tryd.pinned (.plain (OpenSpec.ofChange identPartsSpec)) identPartsCard

/-- THE TIED CARD OF 'rootstocklaw14.IdentTurned'. -/
def identTurnedCard : Claim7 := { stood := { row := identTurnedRow, standIns := [], harness := (true, "35aa5b346a9108f1b375a3b606387713ce66c9269c37ae52b7af454ac2c29ac0"), looks := false }, kinds := [], alts := [], laidByText := true, laidKinds := [.data], laidTests := true, laidLooks := .later }
def IdentTurnedCardSaid : Prop := Claim7.holds Tryd.pinned (.plain (OpenSpec.ofChange identTurnedSpec)) identTurnedCard

/-- THE TIED CARD OF 'rootstocklaw14.IdentTexts'. -/
def identTextsCard : Claim7 := { stood := { row := identTextsRow, standIns := [], harness := (true, "35aa5b346a9108f1b375a3b606387713ce66c9269c37ae52b7af454ac2c29ac0"), looks := false }, kinds := [], alts := [], laidByText := true, laidKinds := [.data], laidTests := true, laidLooks := .later }
def IdentTextsCardSaid : Prop := Claim7.holds Tryd.pinned (.plain (OpenSpec.ofChange identTextsSpec)) identTextsCard

/-- THE TIED CARD OF 'rootstocklaw14.IdentBack'. -/
def identBackCard : Claim7 := { stood := { row := identBackRow, standIns := [], harness := (true, "35aa5b346a9108f1b375a3b606387713ce66c9269c37ae52b7af454ac2c29ac0"), looks := false }, kinds := [], alts := [], laidByText := true, laidKinds := [.data], laidTests := true, laidLooks := .later }
def IdentBackCardSaid : Prop := Claim7.holds Tryd.pinned (.plain (OpenSpec.ofChange identBackSpec)) identBackCard

/-- THE SECOND FORM's CARD OF 'rootstocklaw14.IdentNames'. -/
def identNamesUptoCard : Claim7 := { stood := { row := identNamesUptoRow, standIns := [], harness := (true, "35aa5b346a9108f1b375a3b606387713ce66c9269c37ae52b7af454ac2c29ac0"), looks := false }, kinds := [], alts := [], laidByText := true, laidKinds := [.data], laidTests := true, laidLooks := .later }
def IdentNamesUptoCardSaid : Prop := Claim7.holds Tryd.pinned (.plain (OpenSpec.upto identNamesSpec)) identNamesUptoCard

/-- THE SECOND FORM's CARD OF 'rootstocklaw14.IdentParts'. -/
def identPartsUptoCard : Claim7 := { stood := { row := identPartsUptoRow, standIns := [], harness := (true, "35aa5b346a9108f1b375a3b606387713ce66c9269c37ae52b7af454ac2c29ac0"), looks := false }, kinds := [], alts := [], laidByText := true, laidKinds := [.data], laidTests := true, laidLooks := .later }
def IdentPartsUptoCardSaid : Prop := Claim7.holds Tryd.pinned (.plain (OpenSpec.upto identPartsSpec)) identPartsUptoCard

/-- THE SECOND FORM's CARD OF 'rootstocklaw14.IdentTurned'. -/
def identTurnedUptoCard : Claim7 := { stood := { row := identTurnedUptoRow, standIns := [], harness := (true, "35aa5b346a9108f1b375a3b606387713ce66c9269c37ae52b7af454ac2c29ac0"), looks := false }, kinds := [], alts := [], laidByText := true, laidKinds := [.data], laidTests := true, laidLooks := .later }
def IdentTurnedUptoCardSaid : Prop := Claim7.holds Tryd.pinned (.plain (OpenSpec.upto identTurnedSpec)) identTurnedUptoCard

/-- THE SECOND FORM's CARD OF 'rootstocklaw14.IdentTexts'. -/
def identTextsUptoCard : Claim7 := { stood := { row := identTextsUptoRow, standIns := [], harness := (true, "35aa5b346a9108f1b375a3b606387713ce66c9269c37ae52b7af454ac2c29ac0"), looks := false }, kinds := [], alts := [], laidByText := true, laidKinds := [.data], laidTests := true, laidLooks := .later }
def IdentTextsUptoCardSaid : Prop := Claim7.holds Tryd.pinned (.plain (OpenSpec.upto identTextsSpec)) identTextsUptoCard

/-- THE SECOND FORM's CARD OF 'rootstocklaw14.IdentBack'. -/
def identBackUptoCard : Claim7 := { stood := { row := identBackUptoRow, standIns := [], harness := (true, "35aa5b346a9108f1b375a3b606387713ce66c9269c37ae52b7af454ac2c29ac0"), looks := false }, kinds := [], alts := [], laidByText := true, laidKinds := [.data], laidTests := true, laidLooks := .later }
def IdentBackUptoCardSaid : Prop := Claim7.holds Tryd.pinned (.plain (OpenSpec.upto identBackSpec)) identBackUptoCard
end Rows
end Go.Proofs.YtnccmcnmoccfmaaDoor
