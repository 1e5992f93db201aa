/- ParseRanks: runs. -/
import Derived.Test.YtachednafdmmaaaGreatDoorRKa
import Derived.KernelRfl
namespace Go.Proofs.YtachednafdmmaaaGreatDoor.AI
open Go Go.RowKit
set_option linter.unusedVariables false
set_option linter.unusedSimpArgs false
set_option maxRecDepth 100000
theorem run12 : List.all [(2, 2, 4, 0), (2, 2, 4, 1), (2, 2, 4, 2), (2, 2, 4, 3), (2, 2, 4, 4), (2, 2, 4, 5)] rkq = true := by kernel_rfl
theorem run13 : List.all [(2, 2, 5, 0), (2, 2, 5, 1), (2, 2, 5, 2), (2, 2, 5, 3), (2, 2, 5, 4), (2, 2, 5, 5)] rkq = true := by kernel_rfl
theorem run14 : List.all [(2, 3, 0, 0), (2, 3, 0, 1), (2, 3, 0, 2), (2, 3, 0, 3), (2, 3, 1, 0), (2, 3, 1, 1)] rkq = true := by kernel_rfl
theorem run15 : List.all [(2, 3, 1, 2), (2, 3, 1, 3), (2, 3, 2, 0), (2, 3, 2, 1), (2, 3, 2, 2), (2, 3, 2, 3)] rkq = true := by kernel_rfl
theorem run16 : List.all [(2, 3, 3, 0), (2, 3, 3, 1), (2, 3, 3, 2), (2, 3, 3, 3), (2, 3, 4, 0), (2, 3, 4, 1)] rkq = true := by kernel_rfl
theorem run17 : List.all [(2, 3, 4, 2), (2, 3, 4, 3), (2, 3, 5, 0), (2, 3, 5, 1), (2, 3, 5, 2), (2, 3, 5, 3)] rkq = true := by kernel_rfl
end Go.Proofs.YtachednafdmmaaaGreatDoor.AI
