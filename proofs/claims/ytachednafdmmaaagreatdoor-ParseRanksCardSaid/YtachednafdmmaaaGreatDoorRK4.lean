/- ParseRanks: runs. -/
import Derived.Test.YtachednafdmmaaaGreatDoorRKa
import Derived.KernelRfl
namespace Go.Proofs.YtachednafdmmaaaGreatDoor.AI
open Go Go.RowKit
set_option linter.unusedVariables false
set_option linter.unusedSimpArgs false
set_option maxRecDepth 100000
theorem run24 : List.all [(3, 0, 0, 0), (3, 0, 1, 0), (3, 0, 2, 0), (3, 0, 3, 0), (3, 1, 0, 0), (3, 1, 1, 0)] rkq = true := by kernel_rfl
theorem run25 : List.all [(3, 1, 2, 0), (3, 1, 3, 0), (3, 2, 0, 0), (3, 2, 0, 1), (3, 2, 0, 2), (3, 2, 0, 3)] rkq = true := by kernel_rfl
theorem run26 : List.all [(3, 2, 0, 4), (3, 2, 0, 5), (3, 2, 1, 0), (3, 2, 1, 1), (3, 2, 1, 2), (3, 2, 1, 3)] rkq = true := by kernel_rfl
theorem run27 : List.all [(3, 2, 1, 4), (3, 2, 1, 5), (3, 2, 2, 0), (3, 2, 2, 1), (3, 2, 2, 2), (3, 2, 2, 3)] rkq = true := by kernel_rfl
theorem run28 : List.all [(3, 2, 2, 4), (3, 2, 2, 5), (3, 2, 3, 0), (3, 2, 3, 1), (3, 2, 3, 2), (3, 2, 3, 3)] rkq = true := by kernel_rfl
theorem run29 : List.all [(3, 2, 3, 4), (3, 2, 3, 5), (3, 3, 0, 0), (3, 3, 0, 1), (3, 3, 0, 2), (3, 3, 0, 3)] rkq = true := by kernel_rfl
end Go.Proofs.YtachednafdmmaaaGreatDoor.AI
