/-
  DERIVED. GIVEN WITH THE SEED: THE CARDS: each row of YtachednafdmmaaaGreatDoorRows.lean that lists a variable, with what it lists TIED to the program's text (the seventh form; the later family's looks); each row that meets fmt, with fmt's text TOLD by the authors' own Lean function (tested against real Go, not proved from fmt's source: count such statements apart). THE CARD IS WHAT COUNTS. Prove the row's statement (the work); the ties are given (YtachednafdmmaaaGreatDoorTie.lean); close each card by the builder's one call (the guide's Derived/Test/ToyasCard.lean, 'card_holds'). Laid BY PROGRAM, IN A SANDBOX (cutbox-door.mjs). By AI agents, Wed Nov 11 2026. No macro, syntax, notation, axiom, sorry.
-/
import Derived.Test.YtachednafdmmaaaGreatDoorRows
import GoSem.ClaimSeven
namespace Go.Proofs.YtachednafdmmaaaGreatDoor
namespace Rows

/-- THE TIED CARD OF 'gantlinelaw21.ParseRanks'. -/
def parseRanksCard : Claim7 := { stood := { row := parseRanksRow, standIns := [], harness := (true, "04a206928413c04335ca3e4efa01d382e056f714886339381beaa99910f517a9"), looks := true }, kinds := [], alts := [], laidByText := true, laidKinds := [.data, .data, .data, .sentinel, .sentinel], laidTests := true, laidLooks := .later }
def ParseRanksCardSaid : Prop := Claim7.holds Tryz.pinned (.plain (OpenSpec.ofChange parseRanksSpec)) parseRanksCard

/-- THE SECOND FORM's CARD OF 'gantlinelaw21.ParseRanks'. -/
def parseRanksUptoCard : Claim7 := { stood := { row := parseRanksUptoRow, standIns := [], harness := (true, "04a206928413c04335ca3e4efa01d382e056f714886339381beaa99910f517a9"), looks := true }, kinds := [], alts := [], laidByText := true, laidKinds := [.data, .data, .data, .sentinel, .sentinel], laidTests := true, laidLooks := .later }
def ParseRanksUptoCardSaid : Prop := Claim7.holds Tryz.pinned (.plain (OpenSpec.upto parseRanksSpec)) parseRanksUptoCard
end Rows
end Go.Proofs.YtachednafdmmaaaGreatDoor
