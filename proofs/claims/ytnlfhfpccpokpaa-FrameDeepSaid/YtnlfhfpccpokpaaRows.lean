/-
  No cell of these rows narrows 'for every input' (looked for: loops, veiled, ifaces, maps, wideKeys, modest, calm, conditions, laid).
  DERIVED. THE GIVEN ROWS OF THIS SEAT. 4 by the template 'for every input the law returns true; each argument reads behind the call as it read before'; 0 by the template 'total and deterministic' (their statements: YtnlfhfpccpokpaaTotals.lean).
  GIVEN WITH THE SEED: the statements are not yours to turn. If you find one false, say at which input.
  Laid BY PROGRAM, IN A SANDBOX (cutbox-rows.mjs): the forced cells as the released guide's own fill.sh prints them over the translation 337fc2e78db74bb5… (all of the seat's roots in one cut). By AI agents, Wed Nov 11 2026. No macro, syntax, notation, axiom, sorry.
-/
import Derived.Test.YtnlfhfpccpokpaaChecked
import GoSem.Claim
import GoSem.ClaimJoined
import GoSem.ClaimMapViews
import Derived.JoinedTies
import Derived.KernelRfl
namespace Go.Proofs.Ytnlfhfpccpokpaa
/- THE CELL 'sum', in the pinned program and in every row, IS THE sha256 OF THE DUMP (.gsa) THAT YtnlfhfpccpokpaaProg.lean LOADS. Nothing in Lean hashes anything: it is a label: what it is worth is what the hold of that sum in a sandbox is worth. -/
noncomputable def Try.pinned : Pinned := { name := "ytnlfhfpccpokpaa", sum := "337fc2e78db74bb5124563dbbe2bfdef1aa93328d0546f0d98f7e701607d57bf", checked := Try.checked }
namespace Rows
def none {H : Type} : Left H := { results := [], args := [] }

/-- 'gantlinelaw13.FrameKnown': WHATEVER THE INPUT: true; the input reads as it did. -/
def frameKnownSpec : ChangeSpec := { name := "frameKnown", fn := fun _ => fun
  | [] => { results := [.lit (.bool true)], args := [] }
  | _ => none }
def frameKnownRow : OpenClaim := { program := "ytnlfhfpccpokpaa", sum := "337fc2e78db74bb5124563dbbe2bfdef1aa93328d0546f0d98f7e701607d57bf", func := "gantline/gantlinelaw13.FrameKnown", spec := "frameKnown", apart := false }
def FrameKnownSaid : Prop := frameKnownRow.holds Try.pinned (OpenSpec.ofChange frameKnownSpec)

/-- ITS FALSE NEIGHBOUR: 'it returns false'. Refute it at one input. -/
def frameKnownWrong : ChangeSpec := { name := "frameKnown", fn := fun _ => fun
  | [] => { results := [.lit (.bool false)], args := [] }
  | _ => none }
def FrameKnownWrongFalsely : Prop := frameKnownRow.holds Try.pinned (OpenSpec.ofChange frameKnownWrong)

/-- 'gantlinelaw13.FramePlays': WHATEVER THE INPUT: true; the input reads as it did. -/
def framePlaysSpec : ChangeSpec := { name := "framePlays", fn := fun _ => fun
  | [d1, d2, d3, d4] => { results := [.lit (.bool true)], args := [d1, d2, d3, d4] }
  | _ => none }
def framePlaysRow : OpenClaim := { program := "ytnlfhfpccpokpaa", sum := "337fc2e78db74bb5124563dbbe2bfdef1aa93328d0546f0d98f7e701607d57bf", func := "gantline/gantlinelaw13.FramePlays", spec := "framePlays", apart := false }
def FramePlaysSaid : Prop := framePlaysRow.holds Try.pinned (OpenSpec.ofChange framePlaysSpec)

/-- ITS FALSE NEIGHBOUR: 'it returns false'. Refute it at one input. -/
def framePlaysWrong : ChangeSpec := { name := "framePlays", fn := fun _ => fun
  | [d1, d2, d3, d4] => { results := [.lit (.bool false)], args := [d1, d2, d3, d4] }
  | _ => none }
def FramePlaysWrongFalsely : Prop := framePlaysRow.holds Try.pinned (OpenSpec.ofChange framePlaysWrong)

/-- 'gantlinelaw13.FrameDeep': WHATEVER THE INPUT: true; the input reads as it did. -/
def frameDeepSpec : ChangeSpec := { name := "frameDeep", fn := fun _ => fun
  | [d1, d2] => { results := [.lit (.bool true)], args := [d1, d2] }
  | _ => none }
def frameDeepRow : OpenClaim := { program := "ytnlfhfpccpokpaa", sum := "337fc2e78db74bb5124563dbbe2bfdef1aa93328d0546f0d98f7e701607d57bf", func := "gantline/gantlinelaw13.FrameDeep", spec := "frameDeep", apart := false }
def FrameDeepSaid : Prop := frameDeepRow.holds Try.pinned (OpenSpec.ofChange frameDeepSpec)

/-- ITS FALSE NEIGHBOUR: 'it returns false'. Refute it at one input. -/
def frameDeepWrong : ChangeSpec := { name := "frameDeep", fn := fun _ => fun
  | [d1, d2] => { results := [.lit (.bool false)], args := [d1, d2] }
  | _ => none }
def FrameDeepWrongFalsely : Prop := frameDeepRow.holds Try.pinned (OpenSpec.ofChange frameDeepWrong)

/-- 'gantlinelaw13.FrameCopies': WHATEVER THE INPUT: true; the input reads as it did. -/
def frameCopiesSpec : ChangeSpec := { name := "frameCopies", fn := fun _ => fun
  | [d1, d2] => { results := [.lit (.bool true)], args := [d1, d2] }
  | _ => none }
def frameCopiesRow : OpenClaim := { program := "ytnlfhfpccpokpaa", sum := "337fc2e78db74bb5124563dbbe2bfdef1aa93328d0546f0d98f7e701607d57bf", func := "gantline/gantlinelaw13.FrameCopies", spec := "frameCopies", apart := false }
def FrameCopiesSaid : Prop := frameCopiesRow.holds Try.pinned (OpenSpec.ofChange frameCopiesSpec)

/-- ITS FALSE NEIGHBOUR: 'it returns false'. Refute it at one input. -/
def frameCopiesWrong : ChangeSpec := { name := "frameCopies", fn := fun _ => fun
  | [d1, d2] => { results := [.lit (.bool false)], args := [d1, d2] }
  | _ => none }
def FrameCopiesWrongFalsely : Prop := frameCopiesRow.holds Try.pinned (OpenSpec.ofChange frameCopiesWrong)

/- THE SECOND FORM. 'bulk': how many values and letters a reading holds, each counted each time it is reached (what is shared counts as often as it is met; a slice's spare places count too). A statement '..UptoSaid' is the law's where the arguments, and the package variables that the reading takes, are together of bulk at most 1048576: NARROWER than '..Said'. Prove '..Said' where nothing that the law and all that it calls make is longer than what came in: it says more and counts as full. Else prove '..UptoSaid'. A law counts once. -/
mutual
def uptoBulk {H : Type} : DataW H → Nat
  | .lit (.string bytes) => bytes.length + 1
  | .lit _ => 1
  | .nil => 1
  | .ptr d => uptoBulk d + 1
  | .slice elems spare => uptoBulkAll elems + uptoBulkAll spare + 1
  | .agg parts => uptoBulkAll parts + 1
  | .iface _ d => uptoBulk d + 1
  | .map entries => uptoBulkEntries entries + 1
  | .held _ => 1
def uptoBulkAll {H : Type} : List (DataW H) → Nat
  | [] => 0
  | d :: r => uptoBulk d + uptoBulkAll r
def uptoBulkEntries {H : Type} : List (Lit × DataW H) → Nat
  | [] => 0
  | x :: r => uptoBulkEntry x + uptoBulkEntries r
def uptoBulkEntry {H : Type} : Lit × DataW H → Nat
  | (.string bytes, d) => bytes.length + uptoBulk d + 1
  | (_, d) => uptoBulk d + 1
 end
def uptoSmall : (H : Type) → List (DataW H) → Bool := fun _ ds => decide (uptoBulkAll ds ≤ 1048576)
def OpenSpec.upto (s : _root_.Go.ChangeSpec) : _root_.Go.OpenSpec := { _root_.Go.OpenSpec.ofChange s with cond := some uptoSmall }

/-- 'gantlinelaw13.FrameKnown', WHERE WHAT IT READS IS OF BULK AT MOST 1048576: true; the input reads as it did. -/
def frameKnownUptoRow : OpenClaim := { program := "ytnlfhfpccpokpaa", sum := "337fc2e78db74bb5124563dbbe2bfdef1aa93328d0546f0d98f7e701607d57bf", func := "gantline/gantlinelaw13.FrameKnown", spec := "frameKnown", apart := false, narrowed := true }
def FrameKnownUptoSaid : Prop := frameKnownUptoRow.holds Try.pinned (OpenSpec.upto frameKnownSpec)

/-- 'gantlinelaw13.FramePlays', WHERE WHAT IT READS IS OF BULK AT MOST 1048576: true; the input reads as it did. -/
def framePlaysUptoRow : OpenClaim := { program := "ytnlfhfpccpokpaa", sum := "337fc2e78db74bb5124563dbbe2bfdef1aa93328d0546f0d98f7e701607d57bf", func := "gantline/gantlinelaw13.FramePlays", spec := "framePlays", apart := false, narrowed := true }
def FramePlaysUptoSaid : Prop := framePlaysUptoRow.holds Try.pinned (OpenSpec.upto framePlaysSpec)

/-- 'gantlinelaw13.FrameDeep', WHERE WHAT IT READS IS OF BULK AT MOST 1048576: true; the input reads as it did. -/
def frameDeepUptoRow : OpenClaim := { program := "ytnlfhfpccpokpaa", sum := "337fc2e78db74bb5124563dbbe2bfdef1aa93328d0546f0d98f7e701607d57bf", func := "gantline/gantlinelaw13.FrameDeep", spec := "frameDeep", apart := false, narrowed := true }
def FrameDeepUptoSaid : Prop := frameDeepUptoRow.holds Try.pinned (OpenSpec.upto frameDeepSpec)

/-- 'gantlinelaw13.FrameCopies', WHERE WHAT IT READS IS OF BULK AT MOST 1048576: true; the input reads as it did. -/
def frameCopiesUptoRow : OpenClaim := { program := "ytnlfhfpccpokpaa", sum := "337fc2e78db74bb5124563dbbe2bfdef1aa93328d0546f0d98f7e701607d57bf", func := "gantline/gantlinelaw13.FrameCopies", spec := "frameCopies", apart := false, narrowed := true }
def FrameCopiesUptoSaid : Prop := frameCopiesUptoRow.holds Try.pinned (OpenSpec.upto frameCopiesSpec)

end Rows
end Go.Proofs.Ytnlfhfpccpokpaa
