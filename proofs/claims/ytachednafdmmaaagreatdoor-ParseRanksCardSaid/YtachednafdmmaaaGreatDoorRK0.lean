/- ParseRanks: runs. -/
import Derived.Test.YtachednafdmmaaaGreatDoorRKa
import Derived.KernelRfl
namespace Go.Proofs.YtachednafdmmaaaGreatDoor.AI
open Go Go.RowKit
set_option linter.unusedVariables false
set_option linter.unusedSimpArgs false
set_option maxRecDepth 100000
theorem run0 : List.all [(0, 0, 0, 0), (0, 1, 0, 0), (0, 2, 0, 0), (0, 2, 0, 1), (0, 2, 0, 2), (0, 2, 0, 3)] rkq = true := by kernel_rfl
theorem run1 : List.all [(0, 2, 0, 4), (0, 2, 0, 5), (0, 3, 0, 0), (0, 3, 0, 1), (0, 3, 0, 2), (0, 3, 0, 3)] rkq = true := by kernel_rfl
theorem run2 : List.all [(0, 4, 0, 0), (0, 4, 0, 1), (0, 4, 0, 2), (0, 4, 0, 3), (0, 4, 0, 4), (0, 4, 0, 5)] rkq = true := by kernel_rfl
theorem run3 : List.all [(1, 0, 0, 0), (1, 1, 0, 0), (1, 2, 0, 0), (1, 2, 0, 1), (1, 2, 0, 2), (1, 2, 0, 3)] rkq = true := by kernel_rfl
theorem run4 : List.all [(1, 2, 0, 4), (1, 2, 0, 5), (1, 3, 0, 0), (1, 3, 0, 1), (1, 3, 0, 2), (1, 3, 0, 3)] rkq = true := by kernel_rfl
theorem run5 : List.all [(1, 4, 0, 0), (1, 4, 0, 1), (1, 4, 0, 2), (1, 4, 0, 3), (1, 4, 0, 4), (1, 4, 0, 5)] rkq = true := by kernel_rfl
end Go.Proofs.YtachednafdmmaaaGreatDoor.AI
