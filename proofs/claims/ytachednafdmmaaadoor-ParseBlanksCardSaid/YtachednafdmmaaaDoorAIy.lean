/- The abstract interpreter: package-level tables of integers. -/
import Derived.Test.YtachednafdmmaaaDoorAIz
import Derived.Lib.LaidTab
namespace Go.Proofs.YtachednafdmmaaaDoor.AI
open Go Go.RowKit
set_option linter.unusedVariables false
set_option linter.unusedSimpArgs false

variable {P : Program} {w : World}

/-- A table: its variable, its kind, its numbers. -/
abbrev Tabs := List (Nat × IntKind × List Int)

def tabVs (x : Nat × IntKind × List Int) : List Value := x.2.2.map fun z => .int x.2.1 z
def hF : Nat → Tabs → Tr Blk → Tr Blk
  | _, [], t => t
  | i, x :: r, t => hF (i + 1) r (t.set i (some (.row true 7777 (tabVs x))))
def hT (l : Tabs) : AH := ⟨hF 0 l .nil, l.length⟩
end Go.Proofs.YtachednafdmmaaaDoor.AI
