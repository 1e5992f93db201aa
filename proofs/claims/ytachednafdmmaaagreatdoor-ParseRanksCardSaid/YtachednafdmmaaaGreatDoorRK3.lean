/- ParseRanks: runs. -/
import Derived.Test.YtachednafdmmaaaGreatDoorRKa
import Derived.KernelRfl
namespace Go.Proofs.YtachednafdmmaaaGreatDoor.AI
open Go Go.RowKit
set_option linter.unusedVariables false
set_option linter.unusedSimpArgs false
set_option maxRecDepth 100000
theorem run18 : List.all [(2, 4, 0, 0), (2, 4, 0, 1), (2, 4, 0, 2), (2, 4, 0, 3), (2, 4, 0, 4), (2, 4, 0, 5)] rkq = true := by kernel_rfl
theorem run19 : List.all [(2, 4, 1, 0), (2, 4, 1, 1), (2, 4, 1, 2), (2, 4, 1, 3), (2, 4, 1, 4), (2, 4, 1, 5)] rkq = true := by kernel_rfl
theorem run20 : List.all [(2, 4, 2, 0), (2, 4, 2, 1), (2, 4, 2, 2), (2, 4, 2, 3), (2, 4, 2, 4), (2, 4, 2, 5)] rkq = true := by kernel_rfl
theorem run21 : List.all [(2, 4, 3, 0), (2, 4, 3, 1), (2, 4, 3, 2), (2, 4, 3, 3), (2, 4, 3, 4), (2, 4, 3, 5)] rkq = true := by kernel_rfl
theorem run22 : List.all [(2, 4, 4, 0), (2, 4, 4, 1), (2, 4, 4, 2), (2, 4, 4, 3), (2, 4, 4, 4), (2, 4, 4, 5)] rkq = true := by kernel_rfl
theorem run23 : List.all [(2, 4, 5, 0), (2, 4, 5, 1), (2, 4, 5, 2), (2, 4, 5, 3), (2, 4, 5, 4), (2, 4, 5, 5)] rkq = true := by kernel_rfl
end Go.Proofs.YtachednafdmmaaaGreatDoor.AI
