/- ParseRanks: runs. -/
import Derived.Test.YtachednafdmmaaaGreatDoorRKa
import Derived.KernelRfl
namespace Go.Proofs.YtachednafdmmaaaGreatDoor.AI
open Go Go.RowKit
set_option linter.unusedVariables false
set_option linter.unusedSimpArgs false
set_option maxRecDepth 100000
theorem run48 : List.all [(4, 4, 0, 0), (4, 4, 0, 1), (4, 4, 0, 2), (4, 4, 0, 3), (4, 4, 0, 4), (4, 4, 0, 5)] rkq = true := by kernel_rfl
theorem run49 : List.all [(4, 4, 1, 0), (4, 4, 1, 1), (4, 4, 1, 2), (4, 4, 1, 3), (4, 4, 1, 4), (4, 4, 1, 5)] rkq = true := by kernel_rfl
theorem run50 : List.all [(4, 4, 2, 0), (4, 4, 2, 1), (4, 4, 2, 2), (4, 4, 2, 3), (4, 4, 2, 4), (4, 4, 2, 5)] rkq = true := by kernel_rfl
theorem run51 : List.all [(4, 4, 3, 0), (4, 4, 3, 1), (4, 4, 3, 2), (4, 4, 3, 3), (4, 4, 3, 4), (4, 4, 3, 5)] rkq = true := by kernel_rfl
theorem run52 : List.all [(4, 4, 4, 0), (4, 4, 4, 1), (4, 4, 4, 2), (4, 4, 4, 3), (4, 4, 4, 4), (4, 4, 4, 5)] rkq = true := by kernel_rfl
theorem run53 : List.all [(4, 4, 5, 0), (4, 4, 5, 1), (4, 4, 5, 2), (4, 4, 5, 3), (4, 4, 5, 4), (4, 4, 5, 5)] rkq = true := by kernel_rfl
end Go.Proofs.YtachednafdmmaaaGreatDoor.AI
