/-
  No cell of these rows narrows 'for every input' (looked for: loops, veiled, ifaces, maps, wideKeys, modest, calm, conditions, laid).
  DERIVED. THE GIVEN ROWS OF THIS SEAT. 5 by the template 'for every input the law returns true; each argument reads behind the call as it read before'; 0 by the template 'total and deterministic' (their statements: YtclblekgjhcgoaaTotals.lean).
  GIVEN WITH THE SEED: the statements are not yours to turn. If you find one false, say at which input.
  Laid BY PROGRAM, IN A SANDBOX (cutbox-rows.mjs): the forced cells as the released guide's own fill.sh prints them over the translation af5acd4cca4c64ab… (all of the seat's roots in one cut). By AI agents, Wed Nov 11 2026. No macro, syntax, notation, axiom, sorry.
-/
import Derived.Test.YtclblekgjhcgoaaChecked
import GoSem.Claim
import GoSem.ClaimJoined
import GoSem.ClaimMapViews
import Derived.JoinedTies
import Derived.KernelRfl
namespace Go.Proofs.Ytclblekgjhcgoaa
/- THE CELL 'sum', in the pinned program and in every row, IS THE sha256 OF THE DUMP (.gsa) THAT YtclblekgjhcgoaaProg.lean LOADS. Nothing in Lean hashes anything: it is a label: what it is worth is what the hold of that sum in a sandbox is worth. -/
noncomputable def Try.pinned : Pinned := { name := "ytclblekgjhcgoaa", sum := "af5acd4cca4c64abe3405371bd17b90363007d4a2e04e7a07bb4dcb37aea1239", checked := Try.checked }
namespace Rows
def none {H : Type} : Left H := { results := [], args := [] }

/-- 'gantlinelaw2.GeomKnown': WHATEVER THE INPUT: true; the input reads as it did. -/
def geomKnownSpec : ChangeSpec := { name := "geomKnown", fn := fun _ => fun
  | [] => { results := [.lit (.bool true)], args := [] }
  | _ => none }
def geomKnownRow : OpenClaim := { program := "ytclblekgjhcgoaa", sum := "af5acd4cca4c64abe3405371bd17b90363007d4a2e04e7a07bb4dcb37aea1239", func := "gantline/gantlinelaw2.GeomKnown", spec := "geomKnown", apart := false }
def GeomKnownSaid : Prop := geomKnownRow.holds Try.pinned (OpenSpec.ofChange geomKnownSpec)

/-- ITS FALSE NEIGHBOUR: 'it returns false'. Refute it at one input. -/
def geomKnownWrong : ChangeSpec := { name := "geomKnown", fn := fun _ => fun
  | [] => { results := [.lit (.bool false)], args := [] }
  | _ => none }
def GeomKnownWrongFalsely : Prop := geomKnownRow.holds Try.pinned (OpenSpec.ofChange geomKnownWrong)

/-- 'gantlinelaw2.GeomSays': WHATEVER THE INPUT: true; the input reads as it did. -/
def geomSaysSpec : ChangeSpec := { name := "geomSays", fn := fun _ => fun
  | [d1, d2, d3, d4, d5] => { results := [.lit (.bool true)], args := [d1, d2, d3, d4, d5] }
  | _ => none }
def geomSaysRow : OpenClaim := { program := "ytclblekgjhcgoaa", sum := "af5acd4cca4c64abe3405371bd17b90363007d4a2e04e7a07bb4dcb37aea1239", func := "gantline/gantlinelaw2.GeomSays", spec := "geomSays", apart := false }
def GeomSaysSaid : Prop := geomSaysRow.holds Try.pinned (OpenSpec.ofChange geomSaysSpec)

/-- ITS FALSE NEIGHBOUR: 'it returns false'. Refute it at one input. -/
def geomSaysWrong : ChangeSpec := { name := "geomSays", fn := fun _ => fun
  | [d1, d2, d3, d4, d5] => { results := [.lit (.bool false)], args := [d1, d2, d3, d4, d5] }
  | _ => none }
def GeomSaysWrongFalsely : Prop := geomSaysRow.holds Try.pinned (OpenSpec.ofChange geomSaysWrong)

/-- 'gantlinelaw2.GeomBack': WHATEVER THE INPUT: true; the input reads as it did. -/
def geomBackSpec : ChangeSpec := { name := "geomBack", fn := fun _ => fun
  | [d1, d2, d3] => { results := [.lit (.bool true)], args := [d1, d2, d3] }
  | _ => none }
def geomBackRow : OpenClaim := { program := "ytclblekgjhcgoaa", sum := "af5acd4cca4c64abe3405371bd17b90363007d4a2e04e7a07bb4dcb37aea1239", func := "gantline/gantlinelaw2.GeomBack", spec := "geomBack", apart := false }
def GeomBackSaid : Prop := geomBackRow.holds Try.pinned (OpenSpec.ofChange geomBackSpec)

/-- ITS FALSE NEIGHBOUR: 'it returns false'. Refute it at one input. -/
def geomBackWrong : ChangeSpec := { name := "geomBack", fn := fun _ => fun
  | [d1, d2, d3] => { results := [.lit (.bool false)], args := [d1, d2, d3] }
  | _ => none }
def GeomBackWrongFalsely : Prop := geomBackRow.holds Try.pinned (OpenSpec.ofChange geomBackWrong)

/-- 'gantlinelaw2.GeomLeast': WHATEVER THE INPUT: true; the input reads as it did. -/
def geomLeastSpec : ChangeSpec := { name := "geomLeast", fn := fun _ => fun
  | [d] => { results := [.lit (.bool true)], args := [d] }
  | _ => none }
def geomLeastRow : OpenClaim := { program := "ytclblekgjhcgoaa", sum := "af5acd4cca4c64abe3405371bd17b90363007d4a2e04e7a07bb4dcb37aea1239", func := "gantline/gantlinelaw2.GeomLeast", spec := "geomLeast", apart := false }
def GeomLeastSaid : Prop := geomLeastRow.holds Try.pinned (OpenSpec.ofChange geomLeastSpec)

/-- ITS FALSE NEIGHBOUR: 'it returns false'. Refute it at one input. -/
def geomLeastWrong : ChangeSpec := { name := "geomLeast", fn := fun _ => fun
  | [d] => { results := [.lit (.bool false)], args := [d] }
  | _ => none }
def GeomLeastWrongFalsely : Prop := geomLeastRow.holds Try.pinned (OpenSpec.ofChange geomLeastWrong)

/-- 'gantlinelaw2.GeomApart': WHATEVER THE INPUT: true; the input reads as it did. -/
def geomApartSpec : ChangeSpec := { name := "geomApart", fn := fun _ => fun
  | [d1, d2, d3, d4, d5, d6] => { results := [.lit (.bool true)], args := [d1, d2, d3, d4, d5, d6] }
  | _ => none }
def geomApartRow : OpenClaim := { program := "ytclblekgjhcgoaa", sum := "af5acd4cca4c64abe3405371bd17b90363007d4a2e04e7a07bb4dcb37aea1239", func := "gantline/gantlinelaw2.GeomApart", spec := "geomApart", apart := false }
def GeomApartSaid : Prop := geomApartRow.holds Try.pinned (OpenSpec.ofChange geomApartSpec)

/-- ITS FALSE NEIGHBOUR: 'it returns false'. Refute it at one input. -/
def geomApartWrong : ChangeSpec := { name := "geomApart", fn := fun _ => fun
  | [d1, d2, d3, d4, d5, d6] => { results := [.lit (.bool false)], args := [d1, d2, d3, d4, d5, d6] }
  | _ => none }
def GeomApartWrongFalsely : Prop := geomApartRow.holds Try.pinned (OpenSpec.ofChange geomApartWrong)

/- THE SECOND FORM. 'bulk': how many values and letters a reading holds, each counted each time it is reached (what is shared counts as often as it is met; a slice's spare places count too). A statement '..UptoSaid' is the law's where the arguments, and the package variables that the reading takes, are together of bulk at most 1048576: NARROWER than '..Said'. Prove '..Said' where nothing that the law and all that it calls make is longer than what came in: it says more and counts as full. Else prove '..UptoSaid'. A law counts once. -/
mutual
def uptoBulk {H : Type} : DataW H → Nat
  | .lit (.string bytes) => bytes.length + 1
  | .lit _ => 1
  | .nil => 1
  | .ptr d => uptoBulk d + 1
  | .slice elems spare => uptoBulkAll elems + uptoBulkAll spare + 1
  | .agg parts => uptoBulkAll parts + 1
  | .iface _ d => uptoBulk d + 1
  | .map entries => uptoBulkEntries entries + 1
  | .held _ => 1
def uptoBulkAll {H : Type} : List (DataW H) → Nat
  | [] => 0
  | d :: r => uptoBulk d + uptoBulkAll r
def uptoBulkEntries {H : Type} : List (Lit × DataW H) → Nat
  | [] => 0
  | x :: r => uptoBulkEntry x + uptoBulkEntries r
def uptoBulkEntry {H : Type} : Lit × DataW H → Nat
  | (.string bytes, d) => bytes.length + uptoBulk d + 1
  | (_, d) => uptoBulk d + 1
 end
def uptoSmall : (H : Type) → List (DataW H) → Bool := fun _ ds => decide (uptoBulkAll ds ≤ 1048576)
def OpenSpec.upto (s : _root_.Go.ChangeSpec) : _root_.Go.OpenSpec := { _root_.Go.OpenSpec.ofChange s with cond := some uptoSmall }

/-- 'gantlinelaw2.GeomKnown', WHERE WHAT IT READS IS OF BULK AT MOST 1048576: true; the input reads as it did. -/
def geomKnownUptoRow : OpenClaim := { program := "ytclblekgjhcgoaa", sum := "af5acd4cca4c64abe3405371bd17b90363007d4a2e04e7a07bb4dcb37aea1239", func := "gantline/gantlinelaw2.GeomKnown", spec := "geomKnown", apart := false, narrowed := true }
def GeomKnownUptoSaid : Prop := geomKnownUptoRow.holds Try.pinned (OpenSpec.upto geomKnownSpec)

/-- 'gantlinelaw2.GeomSays', WHERE WHAT IT READS IS OF BULK AT MOST 1048576: true; the input reads as it did. -/
def geomSaysUptoRow : OpenClaim := { program := "ytclblekgjhcgoaa", sum := "af5acd4cca4c64abe3405371bd17b90363007d4a2e04e7a07bb4dcb37aea1239", func := "gantline/gantlinelaw2.GeomSays", spec := "geomSays", apart := false, narrowed := true }
def GeomSaysUptoSaid : Prop := geomSaysUptoRow.holds Try.pinned (OpenSpec.upto geomSaysSpec)

/-- 'gantlinelaw2.GeomBack', WHERE WHAT IT READS IS OF BULK AT MOST 1048576: true; the input reads as it did. -/
def geomBackUptoRow : OpenClaim := { program := "ytclblekgjhcgoaa", sum := "af5acd4cca4c64abe3405371bd17b90363007d4a2e04e7a07bb4dcb37aea1239", func := "gantline/gantlinelaw2.GeomBack", spec := "geomBack", apart := false, narrowed := true }
def GeomBackUptoSaid : Prop := geomBackUptoRow.holds Try.pinned (OpenSpec.upto geomBackSpec)

/-- 'gantlinelaw2.GeomLeast', WHERE WHAT IT READS IS OF BULK AT MOST 1048576: true; the input reads as it did. -/
def geomLeastUptoRow : OpenClaim := { program := "ytclblekgjhcgoaa", sum := "af5acd4cca4c64abe3405371bd17b90363007d4a2e04e7a07bb4dcb37aea1239", func := "gantline/gantlinelaw2.GeomLeast", spec := "geomLeast", apart := false, narrowed := true }
def GeomLeastUptoSaid : Prop := geomLeastUptoRow.holds Try.pinned (OpenSpec.upto geomLeastSpec)

/-- 'gantlinelaw2.GeomApart', WHERE WHAT IT READS IS OF BULK AT MOST 1048576: true; the input reads as it did. -/
def geomApartUptoRow : OpenClaim := { program := "ytclblekgjhcgoaa", sum := "af5acd4cca4c64abe3405371bd17b90363007d4a2e04e7a07bb4dcb37aea1239", func := "gantline/gantlinelaw2.GeomApart", spec := "geomApart", apart := false, narrowed := true }
def GeomApartUptoSaid : Prop := geomApartUptoRow.holds Try.pinned (OpenSpec.upto geomApartSpec)

end Rows
end Go.Proofs.Ytclblekgjhcgoaa
