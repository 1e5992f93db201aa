/-
  No cell of these rows narrows 'for every input' (looked for: loops, veiled, ifaces, maps, wideKeys, modest, calm, conditions, laid).
  DERIVED. THE GIVEN ROWS OF THIS SEAT. 5 by the template 'for every input the law returns true; each argument reads behind the call as it read before'; 0 by the template 'total and deterministic' (their statements: YtjmmdpfmnnemoaaTotals.lean).
  GIVEN WITH THE SEED: the statements are not yours to turn. If you find one false, say at which input.
  Laid BY PROGRAM, IN A SANDBOX (cutbox-rows.mjs): the forced cells as the released guide's own fill.sh prints them over the translation a94220ae123e3df1… (all of the seat's roots in one cut). By AI agents, Wed Nov 11 2026. No macro, syntax, notation, axiom, sorry.
-/
import Derived.Test.YtjmmdpfmnnemoaaChecked
import GoSem.Claim
import GoSem.ClaimJoined
import GoSem.ClaimMapViews
import Derived.JoinedTies
import Derived.KernelRfl
namespace Go.Proofs.Ytjmmdpfmnnemoaa
/- THE CELL 'sum', in the pinned program and in every row, IS THE sha256 OF THE DUMP (.gsa) THAT YtjmmdpfmnnemoaaProg.lean LOADS. Nothing in Lean hashes anything: it is a label: what it is worth is what the hold of that sum in a sandbox is worth. -/
noncomputable def Try.pinned : Pinned := { name := "ytjmmdpfmnnemoaa", sum := "a94220ae123e3df18a7491a52a25c85f2eb6eb8c2527ad09d26cb479efe7f4b5", checked := Try.checked }
namespace Rows
def none {H : Type} : Left H := { results := [], args := [] }

/-- 'gantlinelaw3.HeadKnown': WHATEVER THE INPUT: true; the input reads as it did. -/
def headKnownSpec : ChangeSpec := { name := "headKnown", fn := fun _ => fun
  | [] => { results := [.lit (.bool true)], args := [] }
  | _ => none }
def headKnownRow : OpenClaim := { program := "ytjmmdpfmnnemoaa", sum := "a94220ae123e3df18a7491a52a25c85f2eb6eb8c2527ad09d26cb479efe7f4b5", func := "gantline/gantlinelaw3.HeadKnown", spec := "headKnown", plainKeys := false, apart := false }
def HeadKnownSaid : Prop := headKnownRow.holds Try.pinned (OpenSpec.ofChange headKnownSpec)

/-- ITS FALSE NEIGHBOUR: 'it returns false'. Refute it at one input. -/
def headKnownWrong : ChangeSpec := { name := "headKnown", fn := fun _ => fun
  | [] => { results := [.lit (.bool false)], args := [] }
  | _ => none }
def HeadKnownWrongFalsely : Prop := headKnownRow.holds Try.pinned (OpenSpec.ofChange headKnownWrong)

/-- 'gantlinelaw3.HeadPacks': WHATEVER THE INPUT: true; the input reads as it did. -/
def headPacksSpec : ChangeSpec := { name := "headPacks", fn := fun _ => fun
  | [d1, d2] => { results := [.lit (.bool true)], args := [d1, d2] }
  | _ => none }
def headPacksRow : OpenClaim := { program := "ytjmmdpfmnnemoaa", sum := "a94220ae123e3df18a7491a52a25c85f2eb6eb8c2527ad09d26cb479efe7f4b5", func := "gantline/gantlinelaw3.HeadPacks", spec := "headPacks", plainKeys := false, apart := false }
def HeadPacksSaid : Prop := headPacksRow.holds Try.pinned (OpenSpec.ofChange headPacksSpec)

/-- ITS FALSE NEIGHBOUR: 'it returns false'. Refute it at one input. -/
def headPacksWrong : ChangeSpec := { name := "headPacks", fn := fun _ => fun
  | [d1, d2] => { results := [.lit (.bool false)], args := [d1, d2] }
  | _ => none }
def HeadPacksWrongFalsely : Prop := headPacksRow.holds Try.pinned (OpenSpec.ofChange headPacksWrong)

/-- 'gantlinelaw3.HeadShapes': WHATEVER THE INPUT: true; the input reads as it did. -/
def headShapesSpec : ChangeSpec := { name := "headShapes", fn := fun _ => fun
  | [d] => { results := [.lit (.bool true)], args := [d] }
  | _ => none }
def headShapesRow : OpenClaim := { program := "ytjmmdpfmnnemoaa", sum := "a94220ae123e3df18a7491a52a25c85f2eb6eb8c2527ad09d26cb479efe7f4b5", func := "gantline/gantlinelaw3.HeadShapes", spec := "headShapes", plainKeys := false, apart := false }
def HeadShapesSaid : Prop := headShapesRow.holds Try.pinned (OpenSpec.ofChange headShapesSpec)

/-- ITS FALSE NEIGHBOUR: 'it returns false'. Refute it at one input. -/
def headShapesWrong : ChangeSpec := { name := "headShapes", fn := fun _ => fun
  | [d] => { results := [.lit (.bool false)], args := [d] }
  | _ => none }
def HeadShapesWrongFalsely : Prop := headShapesRow.holds Try.pinned (OpenSpec.ofChange headShapesWrong)

/-- 'gantlinelaw3.HeadHolds': WHATEVER THE INPUT: true; the input reads as it did. -/
def headHoldsSpec : ChangeSpec := { name := "headHolds", fn := fun _ => fun
  | [d1, d2, d3] => { results := [.lit (.bool true)], args := [d1, d2, d3] }
  | _ => none }
def headHoldsRow : OpenClaim := { program := "ytjmmdpfmnnemoaa", sum := "a94220ae123e3df18a7491a52a25c85f2eb6eb8c2527ad09d26cb479efe7f4b5", func := "gantline/gantlinelaw3.HeadHolds", spec := "headHolds", plainKeys := false, apart := false }
def HeadHoldsSaid : Prop := headHoldsRow.holds Try.pinned (OpenSpec.ofChange headHoldsSpec)

/-- ITS FALSE NEIGHBOUR: 'it returns false'. Refute it at one input. -/
def headHoldsWrong : ChangeSpec := { name := "headHolds", fn := fun _ => fun
  | [d1, d2, d3] => { results := [.lit (.bool false)], args := [d1, d2, d3] }
  | _ => none }
def HeadHoldsWrongFalsely : Prop := headHoldsRow.holds Try.pinned (OpenSpec.ofChange headHoldsWrong)

/-- 'gantlinelaw3.HeadApart': WHATEVER THE INPUT: true; the input reads as it did. -/
def headApartSpec : ChangeSpec := { name := "headApart", fn := fun _ => fun
  | [d1, d2] => { results := [.lit (.bool true)], args := [d1, d2] }
  | _ => none }
def headApartRow : OpenClaim := { program := "ytjmmdpfmnnemoaa", sum := "a94220ae123e3df18a7491a52a25c85f2eb6eb8c2527ad09d26cb479efe7f4b5", func := "gantline/gantlinelaw3.HeadApart", spec := "headApart", plainKeys := false, apart := false }
def HeadApartSaid : Prop := headApartRow.holds Try.pinned (OpenSpec.ofChange headApartSpec)

/-- ITS FALSE NEIGHBOUR: 'it returns false'. Refute it at one input. -/
def headApartWrong : ChangeSpec := { name := "headApart", fn := fun _ => fun
  | [d1, d2] => { results := [.lit (.bool false)], args := [d1, d2] }
  | _ => none }
def HeadApartWrongFalsely : Prop := headApartRow.holds Try.pinned (OpenSpec.ofChange headApartWrong)

/- THE SECOND FORM. 'bulk': how many values and letters a reading holds, each counted each time it is reached (what is shared counts as often as it is met; a slice's spare places count too). A statement '..UptoSaid' is the law's where the arguments, and the package variables that the reading takes, are together of bulk at most 1048576: NARROWER than '..Said'. Prove '..Said' where nothing that the law and all that it calls make is longer than what came in: it says more and counts as full. Else prove '..UptoSaid'. A law counts once. -/
mutual
def uptoBulk {H : Type} : DataW H → Nat
  | .lit (.string bytes) => bytes.length + 1
  | .lit _ => 1
  | .nil => 1
  | .ptr d => uptoBulk d + 1
  | .slice elems spare => uptoBulkAll elems + uptoBulkAll spare + 1
  | .agg parts => uptoBulkAll parts + 1
  | .iface _ d => uptoBulk d + 1
  | .map entries => uptoBulkEntries entries + 1
  | .held _ => 1
def uptoBulkAll {H : Type} : List (DataW H) → Nat
  | [] => 0
  | d :: r => uptoBulk d + uptoBulkAll r
def uptoBulkEntries {H : Type} : List (Lit × DataW H) → Nat
  | [] => 0
  | x :: r => uptoBulkEntry x + uptoBulkEntries r
def uptoBulkEntry {H : Type} : Lit × DataW H → Nat
  | (.string bytes, d) => bytes.length + uptoBulk d + 1
  | (_, d) => uptoBulk d + 1
 end
def uptoSmall : (H : Type) → List (DataW H) → Bool := fun _ ds => decide (uptoBulkAll ds ≤ 1048576)
def OpenSpec.upto (s : _root_.Go.ChangeSpec) : _root_.Go.OpenSpec := { _root_.Go.OpenSpec.ofChange s with cond := some uptoSmall }

/-- 'gantlinelaw3.HeadKnown', WHERE WHAT IT READS IS OF BULK AT MOST 1048576: true; the input reads as it did. -/
def headKnownUptoRow : OpenClaim := { program := "ytjmmdpfmnnemoaa", sum := "a94220ae123e3df18a7491a52a25c85f2eb6eb8c2527ad09d26cb479efe7f4b5", func := "gantline/gantlinelaw3.HeadKnown", spec := "headKnown", plainKeys := false, apart := false, narrowed := true }
def HeadKnownUptoSaid : Prop := headKnownUptoRow.holds Try.pinned (OpenSpec.upto headKnownSpec)

/-- 'gantlinelaw3.HeadPacks', WHERE WHAT IT READS IS OF BULK AT MOST 1048576: true; the input reads as it did. -/
def headPacksUptoRow : OpenClaim := { program := "ytjmmdpfmnnemoaa", sum := "a94220ae123e3df18a7491a52a25c85f2eb6eb8c2527ad09d26cb479efe7f4b5", func := "gantline/gantlinelaw3.HeadPacks", spec := "headPacks", plainKeys := false, apart := false, narrowed := true }
def HeadPacksUptoSaid : Prop := headPacksUptoRow.holds Try.pinned (OpenSpec.upto headPacksSpec)

/-- 'gantlinelaw3.HeadShapes', WHERE WHAT IT READS IS OF BULK AT MOST 1048576: true; the input reads as it did. -/
def headShapesUptoRow : OpenClaim := { program := "ytjmmdpfmnnemoaa", sum := "a94220ae123e3df18a7491a52a25c85f2eb6eb8c2527ad09d26cb479efe7f4b5", func := "gantline/gantlinelaw3.HeadShapes", spec := "headShapes", plainKeys := false, apart := false, narrowed := true }
def HeadShapesUptoSaid : Prop := headShapesUptoRow.holds Try.pinned (OpenSpec.upto headShapesSpec)

/-- 'gantlinelaw3.HeadHolds', WHERE WHAT IT READS IS OF BULK AT MOST 1048576: true; the input reads as it did. -/
def headHoldsUptoRow : OpenClaim := { program := "ytjmmdpfmnnemoaa", sum := "a94220ae123e3df18a7491a52a25c85f2eb6eb8c2527ad09d26cb479efe7f4b5", func := "gantline/gantlinelaw3.HeadHolds", spec := "headHolds", plainKeys := false, apart := false, narrowed := true }
def HeadHoldsUptoSaid : Prop := headHoldsUptoRow.holds Try.pinned (OpenSpec.upto headHoldsSpec)

/-- 'gantlinelaw3.HeadApart', WHERE WHAT IT READS IS OF BULK AT MOST 1048576: true; the input reads as it did. -/
def headApartUptoRow : OpenClaim := { program := "ytjmmdpfmnnemoaa", sum := "a94220ae123e3df18a7491a52a25c85f2eb6eb8c2527ad09d26cb479efe7f4b5", func := "gantline/gantlinelaw3.HeadApart", spec := "headApart", plainKeys := false, apart := false, narrowed := true }
def HeadApartUptoSaid : Prop := headApartUptoRow.holds Try.pinned (OpenSpec.upto headApartSpec)

end Rows
end Go.Proofs.Ytjmmdpfmnnemoaa
