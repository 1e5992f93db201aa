/- ParseRanks: runs. -/
import Derived.Test.YtachednafdmmaaaGreatDoorRKa
import Derived.KernelRfl
namespace Go.Proofs.YtachednafdmmaaaGreatDoor.AI
open Go Go.RowKit
set_option linter.unusedVariables false
set_option linter.unusedSimpArgs false
set_option maxRecDepth 100000
theorem run42 : List.all [(4, 2, 4, 0), (4, 2, 4, 1), (4, 2, 4, 2), (4, 2, 4, 3), (4, 2, 4, 4), (4, 2, 4, 5)] rkq = true := by kernel_rfl
theorem run43 : List.all [(4, 2, 5, 0), (4, 2, 5, 1), (4, 2, 5, 2), (4, 2, 5, 3), (4, 2, 5, 4), (4, 2, 5, 5)] rkq = true := by kernel_rfl
theorem run44 : List.all [(4, 3, 0, 0), (4, 3, 0, 1), (4, 3, 0, 2), (4, 3, 0, 3), (4, 3, 1, 0), (4, 3, 1, 1)] rkq = true := by kernel_rfl
theorem run45 : List.all [(4, 3, 1, 2), (4, 3, 1, 3), (4, 3, 2, 0), (4, 3, 2, 1), (4, 3, 2, 2), (4, 3, 2, 3)] rkq = true := by kernel_rfl
theorem run46 : List.all [(4, 3, 3, 0), (4, 3, 3, 1), (4, 3, 3, 2), (4, 3, 3, 3), (4, 3, 4, 0), (4, 3, 4, 1)] rkq = true := by kernel_rfl
theorem run47 : List.all [(4, 3, 4, 2), (4, 3, 4, 3), (4, 3, 5, 0), (4, 3, 5, 1), (4, 3, 5, 2), (4, 3, 5, 3)] rkq = true := by kernel_rfl
end Go.Proofs.YtachednafdmmaaaGreatDoor.AI
