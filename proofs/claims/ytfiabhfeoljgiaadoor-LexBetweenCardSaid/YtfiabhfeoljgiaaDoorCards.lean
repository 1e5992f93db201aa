/-
  DERIVED. GIVEN WITH THE SEED: THE CARDS: each row of YtfiabhfeoljgiaaDoorRows.lean that lists a variable, with what it lists TIED to the program's text (the seventh form; the later family's looks); each row that meets fmt, with fmt's text TOLD by the authors' own Lean function (tested against real Go, not proved from fmt's source: count such statements apart). THE CARD IS WHAT COUNTS. Prove the row's statement (the work); the ties are given (YtfiabhfeoljgiaaDoorTie.lean); close each card by the builder's one call (the guide's Derived/Test/ToyasCard.lean, 'card_holds'). Laid BY PROGRAM, IN A SANDBOX (cutbox-door.mjs). By AI agents, Wed Nov 11 2026. No macro, syntax, notation, axiom, sorry.
-/
import Derived.Test.YtfiabhfeoljgiaaDoorRows
import GoSem.ClaimSeven
namespace Go.Proofs.YtfiabhfeoljgiaaDoor
namespace Rows

/-- THE TIED CARD OF 'gantlinelaw19.LexKnown'. -/
def lexKnownCard : Claim7 := { stood := { row := lexKnownRow, standIns := [], harness := (true, "dde628f0a3a5436c45470330a809e8b5ebe7b9125131689328d3ac4f873d1552"), looks := true }, kinds := [], alts := [], laidByText := true, laidKinds := [.data, .data, .data, .sentinel, .sentinel], laidTests := true, laidLooks := .later }
def LexKnownCardSaid : Prop := Claim7.holds Tryd.pinned (.plain (OpenSpec.ofChange lexKnownSpec)) lexKnownCard

/-- THE TIED CARD OF 'gantlinelaw19.LexCuts'. -/
def lexCutsCard : Claim7 := { stood := { row := lexCutsRow, standIns := [], harness := (true, "dde628f0a3a5436c45470330a809e8b5ebe7b9125131689328d3ac4f873d1552"), looks := true }, kinds := [], alts := [], laidByText := true, laidKinds := [.data, .data, .data, .sentinel, .sentinel], laidTests := true, laidLooks := .later }
def LexCutsCardSaid : Prop := Claim7.holds Tryd.pinned (.plain (OpenSpec.ofChange lexCutsSpec)) lexCutsCard

/-- THE TIED CARD OF 'gantlinelaw19.LexNames'. -/
def lexNamesCard : Claim7 := { stood := { row := lexNamesRow, standIns := [], harness := (true, "dde628f0a3a5436c45470330a809e8b5ebe7b9125131689328d3ac4f873d1552"), looks := true }, kinds := [], alts := [], laidByText := true, laidKinds := [.data, .data, .data, .sentinel, .sentinel], laidTests := true, laidLooks := .later }
def LexNamesCardSaid : Prop := Claim7.holds Tryd.pinned (.plain (OpenSpec.ofChange lexNamesSpec)) lexNamesCard

/-- THE TIED CARD OF 'gantlinelaw19.LexBetween'. -/
def lexBetweenCard : Claim7 := { stood := { row := lexBetweenRow, standIns := [], harness := (true, "dde628f0a3a5436c45470330a809e8b5ebe7b9125131689328d3ac4f873d1552"), looks := true }, kinds := [], alts := [], laidByText := true, laidKinds := [.data, .data, .data, .sentinel, .sentinel], laidTests := true, laidLooks := .later }
def LexBetweenCardSaid : Prop := Claim7.holds Tryd.pinned (.plain (OpenSpec.ofChange lexBetweenSpec)) lexBetweenCard

/-- THE SECOND FORM's CARD OF 'gantlinelaw19.LexKnown'. -/
def lexKnownUptoCard : Claim7 := { stood := { row := lexKnownUptoRow, standIns := [], harness := (true, "dde628f0a3a5436c45470330a809e8b5ebe7b9125131689328d3ac4f873d1552"), looks := true }, kinds := [], alts := [], laidByText := true, laidKinds := [.data, .data, .data, .sentinel, .sentinel], laidTests := true, laidLooks := .later }
def LexKnownUptoCardSaid : Prop := Claim7.holds Tryd.pinned (.plain (OpenSpec.upto lexKnownSpec)) lexKnownUptoCard

/-- THE SECOND FORM's CARD OF 'gantlinelaw19.LexCuts'. -/
def lexCutsUptoCard : Claim7 := { stood := { row := lexCutsUptoRow, standIns := [], harness := (true, "dde628f0a3a5436c45470330a809e8b5ebe7b9125131689328d3ac4f873d1552"), looks := true }, kinds := [], alts := [], laidByText := true, laidKinds := [.data, .data, .data, .sentinel, .sentinel], laidTests := true, laidLooks := .later }
def LexCutsUptoCardSaid : Prop := Claim7.holds Tryd.pinned (.plain (OpenSpec.upto lexCutsSpec)) lexCutsUptoCard

/-- THE SECOND FORM's CARD OF 'gantlinelaw19.LexNames'. -/
def lexNamesUptoCard : Claim7 := { stood := { row := lexNamesUptoRow, standIns := [], harness := (true, "dde628f0a3a5436c45470330a809e8b5ebe7b9125131689328d3ac4f873d1552"), looks := true }, kinds := [], alts := [], laidByText := true, laidKinds := [.data, .data, .data, .sentinel, .sentinel], laidTests := true, laidLooks := .later }
def LexNamesUptoCardSaid : Prop := Claim7.holds Tryd.pinned (.plain (OpenSpec.upto lexNamesSpec)) lexNamesUptoCard

/-- THE SECOND FORM's CARD OF 'gantlinelaw19.LexBetween'. -/
def lexBetweenUptoCard : Claim7 := { stood := { row := lexBetweenUptoRow, standIns := [], harness := (true, "dde628f0a3a5436c45470330a809e8b5ebe7b9125131689328d3ac4f873d1552"), looks := true }, kinds := [], alts := [], laidByText := true, laidKinds := [.data, .data, .data, .sentinel, .sentinel], laidTests := true, laidLooks := .later }
def LexBetweenUptoCardSaid : Prop := Claim7.holds Tryd.pinned (.plain (OpenSpec.upto lexBetweenSpec)) lexBetweenUptoCard
end Rows
end Go.Proofs.YtfiabhfeoljgiaaDoor
