/- ParseRanks: runs. -/
import Derived.Test.YtachednafdmmaaaGreatDoorRKa
import Derived.KernelRfl
namespace Go.Proofs.YtachednafdmmaaaGreatDoor.AI
open Go Go.RowKit
set_option linter.unusedVariables false
set_option linter.unusedSimpArgs false
set_option maxRecDepth 100000
theorem run30 : List.all [(3, 3, 1, 0), (3, 3, 1, 1), (3, 3, 1, 2), (3, 3, 1, 3), (3, 3, 2, 0), (3, 3, 2, 1)] rkq = true := by kernel_rfl
theorem run31 : List.all [(3, 3, 2, 2), (3, 3, 2, 3), (3, 3, 3, 0), (3, 3, 3, 1), (3, 3, 3, 2), (3, 3, 3, 3)] rkq = true := by kernel_rfl
theorem run32 : List.all [(3, 4, 0, 0), (3, 4, 0, 1), (3, 4, 0, 2), (3, 4, 0, 3), (3, 4, 0, 4), (3, 4, 0, 5)] rkq = true := by kernel_rfl
theorem run33 : List.all [(3, 4, 1, 0), (3, 4, 1, 1), (3, 4, 1, 2), (3, 4, 1, 3), (3, 4, 1, 4), (3, 4, 1, 5)] rkq = true := by kernel_rfl
theorem run34 : List.all [(3, 4, 2, 0), (3, 4, 2, 1), (3, 4, 2, 2), (3, 4, 2, 3), (3, 4, 2, 4), (3, 4, 2, 5)] rkq = true := by kernel_rfl
theorem run35 : List.all [(3, 4, 3, 0), (3, 4, 3, 1), (3, 4, 3, 2), (3, 4, 3, 3), (3, 4, 3, 4), (3, 4, 3, 5)] rkq = true := by kernel_rfl
end Go.Proofs.YtachednafdmmaaaGreatDoor.AI
