/-
  No cell of these rows narrows 'for every input' (looked for: loops, veiled, ifaces, maps, wideKeys, modest, calm, conditions, laid).
  DERIVED. THE GIVEN ROWS OF THIS SEAT. 3 by the template 'for every input the law returns true; each argument reads behind the call as it read before'; 0 by the template 'total and deterministic' (their statements: YtkjiomdgdnjgiaaTotals.lean).
  GIVEN WITH THE SEED: the statements are not yours to turn. If you find one false, say at which input.
  Laid BY PROGRAM, IN A SANDBOX (cutbox-rows.mjs): the forced cells as the released guide's own fill.sh prints them over the translation 601dfc924ea52a27… (all of the seat's roots in one cut). By AI agents, Wed Nov 11 2026. No macro, syntax, notation, axiom, sorry.
-/
import Derived.Test.YtkjiomdgdnjgiaaChecked
import GoSem.Claim
import GoSem.ClaimJoined
import GoSem.ClaimMapViews
import Derived.JoinedTies
import Derived.KernelRfl
namespace Go.Proofs.Ytkjiomdgdnjgiaa
/- THE CELL 'sum', in the pinned program and in every row, IS THE sha256 OF THE DUMP (.gsa) THAT YtkjiomdgdnjgiaaProg.lean LOADS. Nothing in Lean hashes anything: it is a label: what it is worth is what the hold of that sum in a sandbox is worth. -/
noncomputable def Try.pinned : Pinned := { name := "ytkjiomdgdnjgiaa", sum := "601dfc924ea52a27a13180d096ef3cd2c6c447825bbd8032ee0fe70cb858c31a", checked := Try.checked }
namespace Rows
def none {H : Type} : Left H := { results := [], args := [] }

/-- 'gantlinelaw6.GreyKnown': WHATEVER THE INPUT: true; the input reads as it did. -/
def greyKnownSpec : ChangeSpec := { name := "greyKnown", fn := fun _ => fun
  | [] => { results := [.lit (.bool true)], args := [] }
  | _ => none }
def greyKnownRow : OpenClaim := { program := "ytkjiomdgdnjgiaa", sum := "601dfc924ea52a27a13180d096ef3cd2c6c447825bbd8032ee0fe70cb858c31a", func := "gantline/gantlinelaw6.GreyKnown", spec := "greyKnown", apart := false }
def GreyKnownSaid : Prop := greyKnownRow.holds Try.pinned (OpenSpec.ofChange greyKnownSpec)

/-- ITS FALSE NEIGHBOUR: 'it returns false'. Refute it at one input. -/
def greyKnownWrong : ChangeSpec := { name := "greyKnown", fn := fun _ => fun
  | [] => { results := [.lit (.bool false)], args := [] }
  | _ => none }
def GreyKnownWrongFalsely : Prop := greyKnownRow.holds Try.pinned (OpenSpec.ofChange greyKnownWrong)

/-- 'gantlinelaw6.GreyPlays': WHATEVER THE INPUT: true; the input reads as it did. -/
def greyPlaysSpec : ChangeSpec := { name := "greyPlays", fn := fun _ => fun
  | [d] => { results := [.lit (.bool true)], args := [d] }
  | _ => none }
def greyPlaysRow : OpenClaim := { program := "ytkjiomdgdnjgiaa", sum := "601dfc924ea52a27a13180d096ef3cd2c6c447825bbd8032ee0fe70cb858c31a", func := "gantline/gantlinelaw6.GreyPlays", spec := "greyPlays", apart := false }
def GreyPlaysSaid : Prop := greyPlaysRow.holds Try.pinned (OpenSpec.ofChange greyPlaysSpec)

/-- ITS FALSE NEIGHBOUR: 'it returns false'. Refute it at one input. -/
def greyPlaysWrong : ChangeSpec := { name := "greyPlays", fn := fun _ => fun
  | [d] => { results := [.lit (.bool false)], args := [d] }
  | _ => none }
def GreyPlaysWrongFalsely : Prop := greyPlaysRow.holds Try.pinned (OpenSpec.ofChange greyPlaysWrong)

/-- 'gantlinelaw6.GreyBlocks': WHATEVER THE INPUT: true; the input reads as it did. -/
def greyBlocksSpec : ChangeSpec := { name := "greyBlocks", fn := fun _ => fun
  | [d1, d2] => { results := [.lit (.bool true)], args := [d1, d2] }
  | _ => none }
def greyBlocksRow : OpenClaim := { program := "ytkjiomdgdnjgiaa", sum := "601dfc924ea52a27a13180d096ef3cd2c6c447825bbd8032ee0fe70cb858c31a", func := "gantline/gantlinelaw6.GreyBlocks", spec := "greyBlocks", apart := false }
def GreyBlocksSaid : Prop := greyBlocksRow.holds Try.pinned (OpenSpec.ofChange greyBlocksSpec)

/-- ITS FALSE NEIGHBOUR: 'it returns false'. Refute it at one input. -/
def greyBlocksWrong : ChangeSpec := { name := "greyBlocks", fn := fun _ => fun
  | [d1, d2] => { results := [.lit (.bool false)], args := [d1, d2] }
  | _ => none }
def GreyBlocksWrongFalsely : Prop := greyBlocksRow.holds Try.pinned (OpenSpec.ofChange greyBlocksWrong)

/- THE SECOND FORM. 'bulk': how many values and letters a reading holds, each counted each time it is reached (what is shared counts as often as it is met; a slice's spare places count too). A statement '..UptoSaid' is the law's where the arguments, and the package variables that the reading takes, are together of bulk at most 1048576: NARROWER than '..Said'. Prove '..Said' where nothing that the law and all that it calls make is longer than what came in: it says more and counts as full. Else prove '..UptoSaid'. A law counts once. -/
mutual
def uptoBulk {H : Type} : DataW H → Nat
  | .lit (.string bytes) => bytes.length + 1
  | .lit _ => 1
  | .nil => 1
  | .ptr d => uptoBulk d + 1
  | .slice elems spare => uptoBulkAll elems + uptoBulkAll spare + 1
  | .agg parts => uptoBulkAll parts + 1
  | .iface _ d => uptoBulk d + 1
  | .map entries => uptoBulkEntries entries + 1
  | .held _ => 1
def uptoBulkAll {H : Type} : List (DataW H) → Nat
  | [] => 0
  | d :: r => uptoBulk d + uptoBulkAll r
def uptoBulkEntries {H : Type} : List (Lit × DataW H) → Nat
  | [] => 0
  | x :: r => uptoBulkEntry x + uptoBulkEntries r
def uptoBulkEntry {H : Type} : Lit × DataW H → Nat
  | (.string bytes, d) => bytes.length + uptoBulk d + 1
  | (_, d) => uptoBulk d + 1
 end
def uptoSmall : (H : Type) → List (DataW H) → Bool := fun _ ds => decide (uptoBulkAll ds ≤ 1048576)
def OpenSpec.upto (s : _root_.Go.ChangeSpec) : _root_.Go.OpenSpec := { _root_.Go.OpenSpec.ofChange s with cond := some uptoSmall }

/-- 'gantlinelaw6.GreyKnown', WHERE WHAT IT READS IS OF BULK AT MOST 1048576: true; the input reads as it did. -/
def greyKnownUptoRow : OpenClaim := { program := "ytkjiomdgdnjgiaa", sum := "601dfc924ea52a27a13180d096ef3cd2c6c447825bbd8032ee0fe70cb858c31a", func := "gantline/gantlinelaw6.GreyKnown", spec := "greyKnown", apart := false, narrowed := true }
def GreyKnownUptoSaid : Prop := greyKnownUptoRow.holds Try.pinned (OpenSpec.upto greyKnownSpec)

/-- 'gantlinelaw6.GreyPlays', WHERE WHAT IT READS IS OF BULK AT MOST 1048576: true; the input reads as it did. -/
def greyPlaysUptoRow : OpenClaim := { program := "ytkjiomdgdnjgiaa", sum := "601dfc924ea52a27a13180d096ef3cd2c6c447825bbd8032ee0fe70cb858c31a", func := "gantline/gantlinelaw6.GreyPlays", spec := "greyPlays", apart := false, narrowed := true }
def GreyPlaysUptoSaid : Prop := greyPlaysUptoRow.holds Try.pinned (OpenSpec.upto greyPlaysSpec)

/-- 'gantlinelaw6.GreyBlocks', WHERE WHAT IT READS IS OF BULK AT MOST 1048576: true; the input reads as it did. -/
def greyBlocksUptoRow : OpenClaim := { program := "ytkjiomdgdnjgiaa", sum := "601dfc924ea52a27a13180d096ef3cd2c6c447825bbd8032ee0fe70cb858c31a", func := "gantline/gantlinelaw6.GreyBlocks", spec := "greyBlocks", apart := false, narrowed := true }
def GreyBlocksUptoSaid : Prop := greyBlocksUptoRow.holds Try.pinned (OpenSpec.upto greyBlocksSpec)

end Rows
end Go.Proofs.Ytkjiomdgdnjgiaa
