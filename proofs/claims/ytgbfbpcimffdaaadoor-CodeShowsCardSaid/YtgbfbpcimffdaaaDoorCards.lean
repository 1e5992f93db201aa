/-
  DERIVED. GIVEN WITH THE SEED: THE CARDS: each row of YtgbfbpcimffdaaaDoorRows.lean that lists a variable, with what it lists TIED to the program's text (the seventh form; the later family's looks); each row that meets fmt, with fmt's text TOLD by the authors' own Lean function (tested against real Go, not proved from fmt's source: count such statements apart). THE CARD IS WHAT COUNTS. Prove the row's statement (the work); the ties are given (YtgbfbpcimffdaaaDoorTie.lean); close each card by the builder's one call (the guide's Derived/Test/ToyasCard.lean, 'card_holds'). Laid BY PROGRAM, IN A SANDBOX (cutbox-door.mjs). By AI agents, Wed Nov 11 2026. No macro, syntax, notation, axiom, sorry.
-/
import Derived.Test.YtgbfbpcimffdaaaDoorRows
import GoSem.ClaimSeven
namespace Go.Proofs.YtgbfbpcimffdaaaDoor
namespace Rows

/-- THE TIED CARD OF 'gantlinelaw9.CodeKnown'. -/
def codeKnownCard : Claim7 := { stood := { row := codeKnownRow, standIns := [], harness := (true, "d027d395ed91103fd0678cce75d97fcea00c0306946274dce9ea4c22e7fe0c4c"), looks := false }, kinds := [], alts := [], laidByText := true, laidKinds := [.data, .data, .data], laidTests := true, laidLooks := .later }
def CodeKnownCardSaid : Prop := Claim7.holds Tryd.pinned (.plain (OpenSpec.ofChange codeKnownSpec)) codeKnownCard

/-- THE TIED CARD OF 'gantlinelaw9.CodeNames'. -/
def codeNamesCard : Claim7 := { stood := { row := codeNamesRow, standIns := [], harness := (true, "d027d395ed91103fd0678cce75d97fcea00c0306946274dce9ea4c22e7fe0c4c"), looks := false }, kinds := [], alts := [], laidByText := true, laidKinds := [.data, .data, .data], laidTests := true, laidLooks := .later }
def CodeNamesCardSaid : Prop := Claim7.holds Tryd.pinned (.plain (OpenSpec.ofChange codeNamesSpec)) codeNamesCard

/-- THE TIED CARD OF 'gantlinelaw9.CodeBytes'. -/
def codeBytesCard : Claim7 := { stood := { row := codeBytesRow, standIns := [], harness := (true, "d027d395ed91103fd0678cce75d97fcea00c0306946274dce9ea4c22e7fe0c4c"), looks := false }, kinds := [], alts := [], laidByText := true, laidKinds := [.data, .data, .data], laidTests := true, laidLooks := .later }
def CodeBytesCardSaid : Prop := Claim7.holds Tryd.pinned (.plain (OpenSpec.ofChange codeBytesSpec)) codeBytesCard

/-- THE TIED CARD OF 'gantlinelaw9.CodeReads'. -/
def codeReadsCard : Claim7 := { stood := { row := codeReadsRow, standIns := [], harness := (true, "d027d395ed91103fd0678cce75d97fcea00c0306946274dce9ea4c22e7fe0c4c"), looks := false }, kinds := [], alts := [], laidByText := true, laidKinds := [.data, .data, .data], laidTests := true, laidLooks := .later }
def CodeReadsCardSaid : Prop := Claim7.holds Tryd.pinned (.plain (OpenSpec.ofChange codeReadsSpec)) codeReadsCard

/-- THE TIED CARD OF 'gantlinelaw9.CodeSame'. -/
def codeSameCard : Claim7 := { stood := { row := codeSameRow, standIns := [], harness := (true, "d027d395ed91103fd0678cce75d97fcea00c0306946274dce9ea4c22e7fe0c4c"), looks := false }, kinds := [], alts := [], laidByText := true, laidKinds := [.data, .data, .data], laidTests := true, laidLooks := .later }
def CodeSameCardSaid : Prop := Claim7.holds Tryd.pinned (.plain (OpenSpec.ofChange codeSameSpec)) codeSameCard

/-- THE TIED CARD OF 'gantlinelaw9.CodeCuts'. -/
def codeCutsCard : Claim7 := { stood := { row := codeCutsRow, standIns := [], harness := (true, "d027d395ed91103fd0678cce75d97fcea00c0306946274dce9ea4c22e7fe0c4c"), looks := false }, kinds := [], alts := [], laidByText := true, laidKinds := [.data, .data, .data], laidTests := true, laidLooks := .later }
def CodeCutsCardSaid : Prop := Claim7.holds Tryd.pinned (.plain (OpenSpec.ofChange codeCutsSpec)) codeCutsCard

/-- THE TIED CARD OF 'gantlinelaw9.CodeShows'. -/
def codeShowsCard : Claim7 := { stood := { row := codeShowsRow, standIns := [], harness := (true, "d027d395ed91103fd0678cce75d97fcea00c0306946274dce9ea4c22e7fe0c4c"), looks := false }, kinds := [], alts := [], laidByText := true, laidKinds := [.data, .data, .data], laidTests := true, laidLooks := .later }
def CodeShowsCardSaid : Prop := Claim7.holds Tryd.pinned (.plain (OpenSpec.ofChange codeShowsSpec)) codeShowsCard

/-- THE SECOND FORM's CARD OF 'gantlinelaw9.CodeKnown'. -/
def codeKnownUptoCard : Claim7 := { stood := { row := codeKnownUptoRow, standIns := [], harness := (true, "d027d395ed91103fd0678cce75d97fcea00c0306946274dce9ea4c22e7fe0c4c"), looks := false }, kinds := [], alts := [], laidByText := true, laidKinds := [.data, .data, .data], laidTests := true, laidLooks := .later }
def CodeKnownUptoCardSaid : Prop := Claim7.holds Tryd.pinned (.plain (OpenSpec.upto codeKnownSpec)) codeKnownUptoCard

/-- THE SECOND FORM's CARD OF 'gantlinelaw9.CodeNames'. -/
def codeNamesUptoCard : Claim7 := { stood := { row := codeNamesUptoRow, standIns := [], harness := (true, "d027d395ed91103fd0678cce75d97fcea00c0306946274dce9ea4c22e7fe0c4c"), looks := false }, kinds := [], alts := [], laidByText := true, laidKinds := [.data, .data, .data], laidTests := true, laidLooks := .later }
def CodeNamesUptoCardSaid : Prop := Claim7.holds Tryd.pinned (.plain (OpenSpec.upto codeNamesSpec)) codeNamesUptoCard

/-- THE SECOND FORM's CARD OF 'gantlinelaw9.CodeBytes'. -/
def codeBytesUptoCard : Claim7 := { stood := { row := codeBytesUptoRow, standIns := [], harness := (true, "d027d395ed91103fd0678cce75d97fcea00c0306946274dce9ea4c22e7fe0c4c"), looks := false }, kinds := [], alts := [], laidByText := true, laidKinds := [.data, .data, .data], laidTests := true, laidLooks := .later }
def CodeBytesUptoCardSaid : Prop := Claim7.holds Tryd.pinned (.plain (OpenSpec.upto codeBytesSpec)) codeBytesUptoCard

/-- THE SECOND FORM's CARD OF 'gantlinelaw9.CodeReads'. -/
def codeReadsUptoCard : Claim7 := { stood := { row := codeReadsUptoRow, standIns := [], harness := (true, "d027d395ed91103fd0678cce75d97fcea00c0306946274dce9ea4c22e7fe0c4c"), looks := false }, kinds := [], alts := [], laidByText := true, laidKinds := [.data, .data, .data], laidTests := true, laidLooks := .later }
def CodeReadsUptoCardSaid : Prop := Claim7.holds Tryd.pinned (.plain (OpenSpec.upto codeReadsSpec)) codeReadsUptoCard

/-- THE SECOND FORM's CARD OF 'gantlinelaw9.CodeSame'. -/
def codeSameUptoCard : Claim7 := { stood := { row := codeSameUptoRow, standIns := [], harness := (true, "d027d395ed91103fd0678cce75d97fcea00c0306946274dce9ea4c22e7fe0c4c"), looks := false }, kinds := [], alts := [], laidByText := true, laidKinds := [.data, .data, .data], laidTests := true, laidLooks := .later }
def CodeSameUptoCardSaid : Prop := Claim7.holds Tryd.pinned (.plain (OpenSpec.upto codeSameSpec)) codeSameUptoCard

/-- THE SECOND FORM's CARD OF 'gantlinelaw9.CodeCuts'. -/
def codeCutsUptoCard : Claim7 := { stood := { row := codeCutsUptoRow, standIns := [], harness := (true, "d027d395ed91103fd0678cce75d97fcea00c0306946274dce9ea4c22e7fe0c4c"), looks := false }, kinds := [], alts := [], laidByText := true, laidKinds := [.data, .data, .data], laidTests := true, laidLooks := .later }
def CodeCutsUptoCardSaid : Prop := Claim7.holds Tryd.pinned (.plain (OpenSpec.upto codeCutsSpec)) codeCutsUptoCard

/-- THE SECOND FORM's CARD OF 'gantlinelaw9.CodeShows'. -/
def codeShowsUptoCard : Claim7 := { stood := { row := codeShowsUptoRow, standIns := [], harness := (true, "d027d395ed91103fd0678cce75d97fcea00c0306946274dce9ea4c22e7fe0c4c"), looks := false }, kinds := [], alts := [], laidByText := true, laidKinds := [.data, .data, .data], laidTests := true, laidLooks := .later }
def CodeShowsUptoCardSaid : Prop := Claim7.holds Tryd.pinned (.plain (OpenSpec.upto codeShowsSpec)) codeShowsUptoCard
end Rows
end Go.Proofs.YtgbfbpcimffdaaaDoor
