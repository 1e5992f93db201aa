/-
  DERIVED. GIVEN WITH THE SEED: THE CARDS: each row of YtjhlfolgadaliaaDoorRows.lean that lists a variable, with what it lists TIED to the program's text (the seventh form; the later family's looks); each row that meets fmt, with fmt's text TOLD by the authors' own Lean function (tested against real Go, not proved from fmt's source: count such statements apart). THE CARD IS WHAT COUNTS. Prove the row's statement (the work); the ties are given (YtjhlfolgadaliaaDoorTie.lean); close each card by the builder's one call (the guide's Derived/Test/ToyasCard.lean, 'card_holds'). Laid BY PROGRAM, IN A SANDBOX (cutbox-door.mjs). By AI agents, Wed Nov 11 2026. No macro, syntax, notation, axiom, sorry.
-/
import Derived.Test.YtjhlfolgadaliaaDoorRows
import GoSem.ClaimSeven
namespace Go.Proofs.YtjhlfolgadaliaaDoor
namespace Rows

/-- THE TIED CARD OF 'gantlinelaw1.BitsKnown'. -/
def bitsKnownCard : Claim7 := { stood := { row := bitsKnownRow, standIns := [], harness := (true, "91d512c36933b949424e75267713913666a49fd438b50e941322e5dae2838e0b"), looks := false }, kinds := [], alts := [], laidByText := true, laidKinds := [.data], laidTests := true, laidLooks := .later }
def BitsKnownCardSaid : Prop := Claim7.holds Tryd.pinned (.plain (OpenSpec.ofChange bitsKnownSpec)) bitsKnownCard

/-- THE TIED CARD OF 'gantlinelaw1.BitsMaps'. -/
def bitsMapsCard : Claim7 := { stood := { row := bitsMapsRow, standIns := [], harness := (true, "91d512c36933b949424e75267713913666a49fd438b50e941322e5dae2838e0b"), looks := false }, kinds := [], alts := [], laidByText := true, laidKinds := [.data], laidTests := true, laidLooks := .later }
def BitsMapsCardSaid : Prop := Claim7.holds Tryd.pinned (.plain (OpenSpec.ofChange bitsMapsSpec)) bitsMapsCard

/-- THE TIED CARD OF 'gantlinelaw1.BitsBytes'. -/
def bitsBytesCard : Claim7 := { stood := { row := bitsBytesRow, standIns := [], harness := (true, "91d512c36933b949424e75267713913666a49fd438b50e941322e5dae2838e0b"), looks := false }, kinds := [], alts := [], laidByText := true, laidKinds := [.data], laidTests := true, laidLooks := .later }
def BitsBytesCardSaid : Prop := Claim7.holds Tryd.pinned (.plain (OpenSpec.ofChange bitsBytesSpec)) bitsBytesCard

/-- THE TIED CARD OF 'gantlinelaw1.BitsRing'. -/
def bitsRingCard : Claim7 := { stood := { row := bitsRingRow, standIns := [], harness := (true, "91d512c36933b949424e75267713913666a49fd438b50e941322e5dae2838e0b"), looks := false }, kinds := [], alts := [], laidByText := true, laidKinds := [.data], laidTests := true, laidLooks := .later }
def BitsRingCardSaid : Prop := Claim7.holds Tryd.pinned (.plain (OpenSpec.ofChange bitsRingSpec)) bitsRingCard

/-- THE TIED CARD OF 'gantlinelaw1.BitsShifts'. -/
def bitsShiftsCard : Claim7 := { stood := { row := bitsShiftsRow, standIns := [], harness := (true, "91d512c36933b949424e75267713913666a49fd438b50e941322e5dae2838e0b"), looks := false }, kinds := [], alts := [], laidByText := true, laidKinds := [.data], laidTests := true, laidLooks := .later }
def BitsShiftsCardSaid : Prop := Claim7.holds Tryd.pinned (.plain (OpenSpec.ofChange bitsShiftsSpec)) bitsShiftsCard

/-- THE TIED CARD OF 'gantlinelaw1.BitsFields'. -/
def bitsFieldsCard : Claim7 := { stood := { row := bitsFieldsRow, standIns := [], harness := (true, "91d512c36933b949424e75267713913666a49fd438b50e941322e5dae2838e0b"), looks := false }, kinds := [], alts := [], laidByText := true, laidKinds := [.data], laidTests := true, laidLooks := .later }
def BitsFieldsCardSaid : Prop := Claim7.holds Tryd.pinned (.plain (OpenSpec.ofChange bitsFieldsSpec)) bitsFieldsCard

/-- THE TIED CARD OF 'gantlinelaw1.BitsCounts'. -/
def bitsCountsCard : Claim7 := { stood := { row := bitsCountsRow, standIns := [], harness := (true, "91d512c36933b949424e75267713913666a49fd438b50e941322e5dae2838e0b"), looks := false }, kinds := [], alts := [], laidByText := true, laidKinds := [.data], laidTests := true, laidLooks := .later }
def BitsCountsCardSaid : Prop := Claim7.holds Tryd.pinned (.plain (OpenSpec.ofChange bitsCountsSpec)) bitsCountsCard

/-- THE TIED CARD OF 'gantlinelaw1.BitsOrder'. -/
def bitsOrderCard : Claim7 := { stood := { row := bitsOrderRow, standIns := [], harness := (true, "91d512c36933b949424e75267713913666a49fd438b50e941322e5dae2838e0b"), looks := false }, kinds := [], alts := [], laidByText := true, laidKinds := [.data], laidTests := true, laidLooks := .later }
def BitsOrderCardSaid : Prop := Claim7.holds Tryd.pinned (.plain (OpenSpec.ofChange bitsOrderSpec)) bitsOrderCard

/-- THE SECOND FORM's CARD OF 'gantlinelaw1.BitsKnown'. -/
def bitsKnownUptoCard : Claim7 := { stood := { row := bitsKnownUptoRow, standIns := [], harness := (true, "91d512c36933b949424e75267713913666a49fd438b50e941322e5dae2838e0b"), looks := false }, kinds := [], alts := [], laidByText := true, laidKinds := [.data], laidTests := true, laidLooks := .later }
def BitsKnownUptoCardSaid : Prop := Claim7.holds Tryd.pinned (.plain (OpenSpec.upto bitsKnownSpec)) bitsKnownUptoCard

/-- THE SECOND FORM's CARD OF 'gantlinelaw1.BitsMaps'. -/
def bitsMapsUptoCard : Claim7 := { stood := { row := bitsMapsUptoRow, standIns := [], harness := (true, "91d512c36933b949424e75267713913666a49fd438b50e941322e5dae2838e0b"), looks := false }, kinds := [], alts := [], laidByText := true, laidKinds := [.data], laidTests := true, laidLooks := .later }
def BitsMapsUptoCardSaid : Prop := Claim7.holds Tryd.pinned (.plain (OpenSpec.upto bitsMapsSpec)) bitsMapsUptoCard

/-- THE SECOND FORM's CARD OF 'gantlinelaw1.BitsBytes'. -/
def bitsBytesUptoCard : Claim7 := { stood := { row := bitsBytesUptoRow, standIns := [], harness := (true, "91d512c36933b949424e75267713913666a49fd438b50e941322e5dae2838e0b"), looks := false }, kinds := [], alts := [], laidByText := true, laidKinds := [.data], laidTests := true, laidLooks := .later }
def BitsBytesUptoCardSaid : Prop := Claim7.holds Tryd.pinned (.plain (OpenSpec.upto bitsBytesSpec)) bitsBytesUptoCard

/-- THE SECOND FORM's CARD OF 'gantlinelaw1.BitsRing'. -/
def bitsRingUptoCard : Claim7 := { stood := { row := bitsRingUptoRow, standIns := [], harness := (true, "91d512c36933b949424e75267713913666a49fd438b50e941322e5dae2838e0b"), looks := false }, kinds := [], alts := [], laidByText := true, laidKinds := [.data], laidTests := true, laidLooks := .later }
def BitsRingUptoCardSaid : Prop := Claim7.holds Tryd.pinned (.plain (OpenSpec.upto bitsRingSpec)) bitsRingUptoCard

/-- THE SECOND FORM's CARD OF 'gantlinelaw1.BitsShifts'. -/
def bitsShiftsUptoCard : Claim7 := { stood := { row := bitsShiftsUptoRow, standIns := [], harness := (true, "91d512c36933b949424e75267713913666a49fd438b50e941322e5dae2838e0b"), looks := false }, kinds := [], alts := [], laidByText := true, laidKinds := [.data], laidTests := true, laidLooks := .later }
def BitsShiftsUptoCardSaid : Prop := Claim7.holds Tryd.pinned (.plain (OpenSpec.upto bitsShiftsSpec)) bitsShiftsUptoCard

/-- THE SECOND FORM's CARD OF 'gantlinelaw1.BitsFields'. -/
def bitsFieldsUptoCard : Claim7 := { stood := { row := bitsFieldsUptoRow, standIns := [], harness := (true, "91d512c36933b949424e75267713913666a49fd438b50e941322e5dae2838e0b"), looks := false }, kinds := [], alts := [], laidByText := true, laidKinds := [.data], laidTests := true, laidLooks := .later }
def BitsFieldsUptoCardSaid : Prop := Claim7.holds Tryd.pinned (.plain (OpenSpec.upto bitsFieldsSpec)) bitsFieldsUptoCard

/-- THE SECOND FORM's CARD OF 'gantlinelaw1.BitsCounts'. -/
def bitsCountsUptoCard : Claim7 := { stood := { row := bitsCountsUptoRow, standIns := [], harness := (true, "91d512c36933b949424e75267713913666a49fd438b50e941322e5dae2838e0b"), looks := false }, kinds := [], alts := [], laidByText := true, laidKinds := [.data], laidTests := true, laidLooks := .later }
def BitsCountsUptoCardSaid : Prop := Claim7.holds Tryd.pinned (.plain (OpenSpec.upto bitsCountsSpec)) bitsCountsUptoCard

/-- THE SECOND FORM's CARD OF 'gantlinelaw1.BitsOrder'. -/
def bitsOrderUptoCard : Claim7 := { stood := { row := bitsOrderUptoRow, standIns := [], harness := (true, "91d512c36933b949424e75267713913666a49fd438b50e941322e5dae2838e0b"), looks := false }, kinds := [], alts := [], laidByText := true, laidKinds := [.data], laidTests := true, laidLooks := .later }
def BitsOrderUptoCardSaid : Prop := Claim7.holds Tryd.pinned (.plain (OpenSpec.upto bitsOrderSpec)) bitsOrderUptoCard
end Rows
end Go.Proofs.YtjhlfolgadaliaaDoor
