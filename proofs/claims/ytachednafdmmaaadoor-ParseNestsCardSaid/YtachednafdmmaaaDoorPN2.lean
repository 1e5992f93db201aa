/- ParseNests: runs. -/
import Derived.Test.YtachednafdmmaaaDoorPP3
import Derived.KernelRfl
namespace Go.Proofs.YtachednafdmmaaaDoor.AI
open Go Go.RowKit
set_option linter.unusedVariables false
set_option maxRecDepth 100000
theorem qa3_0 : outE (txA 0 3) = some 0 := by kernel_rfl
theorem qa3_1 : outE (txA 1 3) = some 0 := by kernel_rfl
theorem qa3_2 : outE (txA 2 3) = some 0 := by kernel_rfl
theorem qa3_3 : outE (txA 3 3) = some 0 := by kernel_rfl
theorem qb3 : outE (txB 3) = some 0 := by kernel_rfl
theorem qc3 : outE (txC 3) = some 0 := by kernel_rfl
theorem qa7_0 : outE (txA 0 7) = some 0 := by kernel_rfl
theorem qa7_1 : outE (txA 1 7) = some 0 := by kernel_rfl
theorem qa7_2 : outE (txA 2 7) = some 0 := by kernel_rfl
theorem qa7_3 : outE (txA 3 7) = some 0 := by kernel_rfl
theorem qb7 : outE (txB 7) = some 0 := by kernel_rfl
theorem qc7 : outE (txC 7) = some 0 := by kernel_rfl
theorem qa11_0 : outE (txA 0 11) = some 0 := by kernel_rfl
theorem qa11_1 : outE (txA 1 11) = some 0 := by kernel_rfl
theorem qa11_2 : outE (txA 2 11) = some 0 := by kernel_rfl
theorem qa11_3 : outE (txA 3 11) = some 0 := by kernel_rfl
theorem qb11 : outE (txB 11) = some 0 := by kernel_rfl
theorem qc11 : outE (txC 11) = some 0 := by kernel_rfl
theorem qa15_0 : outE (txA 0 15) = some 0 := by kernel_rfl
theorem qa15_1 : outE (txA 1 15) = some 0 := by kernel_rfl
theorem qa15_2 : outE (txA 2 15) = some 0 := by kernel_rfl
theorem qa15_3 : outE (txA 3 15) = some 0 := by kernel_rfl
theorem qb15 : outE (txB 15) = some 0 := by kernel_rfl
theorem qc15 : outE (txC 15) = some 0 := by kernel_rfl
theorem qa19_0 : outE (txA 0 19) = some 0 := by kernel_rfl
theorem qa19_1 : outE (txA 1 19) = some 0 := by kernel_rfl
theorem qa19_2 : outE (txA 2 19) = some 0 := by kernel_rfl
theorem qa19_3 : outE (txA 3 19) = some 0 := by kernel_rfl
theorem qb19 : outE (txB 19) = some 0 := by kernel_rfl
theorem qc19 : outE (txC 19) = some 0 := by kernel_rfl
theorem qa23_0 : outE (txA 0 23) = some 0 := by kernel_rfl
theorem qa23_1 : outE (txA 1 23) = some 0 := by kernel_rfl
theorem qa23_2 : outE (txA 2 23) = some 0 := by kernel_rfl
theorem qa23_3 : outE (txA 3 23) = some 0 := by kernel_rfl
theorem qb23 : outE (txB 23) = some 0 := by kernel_rfl
theorem qc23 : outE (txC 23) = some 0 := by kernel_rfl
theorem qa27_0 : outE (txA 0 27) = some 0 := by kernel_rfl
theorem qa27_1 : outE (txA 1 27) = some 0 := by kernel_rfl
theorem qa27_2 : outE (txA 2 27) = some 0 := by kernel_rfl
theorem qa27_3 : outE (txA 3 27) = some 0 := by kernel_rfl
theorem qb27 : outE (txB 27) = some 0 := by kernel_rfl
theorem qc27 : outE (txC 27) = some 0 := by kernel_rfl
theorem qa31_0 : outE (txA 0 31) = some 0 := by kernel_rfl
theorem qa31_1 : outE (txA 1 31) = some 0 := by kernel_rfl
theorem qa31_2 : outE (txA 2 31) = some 0 := by kernel_rfl
theorem qa31_3 : outE (txA 3 31) = some 0 := by kernel_rfl
theorem qb31 : outE (txB 31) = some 0 := by kernel_rfl
theorem qc31 : outE (txC 31) = some 0 := by kernel_rfl
theorem qa35_0 : outE (txA 0 35) = some 0 := by kernel_rfl
theorem qa35_1 : outE (txA 1 35) = some 0 := by kernel_rfl
theorem qa35_2 : outE (txA 2 35) = some 0 := by kernel_rfl
theorem qa35_3 : outE (txA 3 35) = some 0 := by kernel_rfl
theorem qb35 : outE (txB 35) = some 0 := by kernel_rfl
theorem qc35 : outE (txC 35) = some 0 := by kernel_rfl
theorem qa39_0 : outE (txA 0 39) = some 0 := by kernel_rfl
theorem qa39_1 : outE (txA 1 39) = some 0 := by kernel_rfl
theorem qa39_2 : outE (txA 2 39) = some 0 := by kernel_rfl
theorem qa39_3 : outE (txA 3 39) = some 0 := by kernel_rfl
theorem qb39 : outE (txB 39) = some 0 := by kernel_rfl
theorem qc39 : outE (txC 39) = some 0 := by kernel_rfl
theorem qa43_0 : outE (txA 0 43) = some 0 := by kernel_rfl
theorem qa43_1 : outE (txA 1 43) = some 0 := by kernel_rfl
theorem qa43_2 : outE (txA 2 43) = some 0 := by kernel_rfl
theorem qa43_3 : outE (txA 3 43) = some 0 := by kernel_rfl
theorem qb43 : outE (txB 43) = some 0 := by kernel_rfl
theorem qc43 : outE (txC 43) = some 0 := by kernel_rfl
theorem qa47_0 : outE (txA 0 47) = some 0 := by kernel_rfl
theorem qa47_1 : outE (txA 1 47) = some 0 := by kernel_rfl
theorem qa47_2 : outE (txA 2 47) = some 0 := by kernel_rfl
theorem qa47_3 : outE (txA 3 47) = some 0 := by kernel_rfl
theorem qb47 : outE (txB 47) = some 0 := by kernel_rfl
theorem qc47 : outE (txC 47) = some 0 := by kernel_rfl
theorem qa51_0 : outE (txA 0 51) = some 0 := by kernel_rfl
theorem qa51_1 : outE (txA 1 51) = some 0 := by kernel_rfl
theorem qa51_2 : outE (txA 2 51) = some 0 := by kernel_rfl
theorem qa51_3 : outE (txA 3 51) = some 0 := by kernel_rfl
theorem qb51 : outE (txB 51) = some 0 := by kernel_rfl
theorem qc51 : outE (txC 51) = some 0 := by kernel_rfl
theorem qa55_0 : outE (txA 0 55) = some 0 := by kernel_rfl
theorem qa55_1 : outE (txA 1 55) = some 0 := by kernel_rfl
theorem qa55_2 : outE (txA 2 55) = some 0 := by kernel_rfl
theorem qa55_3 : outE (txA 3 55) = some 0 := by kernel_rfl
theorem qb55 : outE (txB 55) = some 0 := by kernel_rfl
theorem qc55 : outE (txC 55) = some 0 := by kernel_rfl
theorem qa59_0 : outE (txA 0 59) = some 0 := by kernel_rfl
theorem qa59_1 : outE (txA 1 59) = some 0 := by kernel_rfl
theorem qa59_2 : outE (txA 2 59) = some 0 := by kernel_rfl
theorem qa59_3 : outE (txA 3 59) = some 0 := by kernel_rfl
theorem qb59 : outE (txB 59) = some 0 := by kernel_rfl
theorem qc59 : outE (txC 59) = some 0 := by kernel_rfl
theorem qa63_0 : outE (txA 0 63) = some 2 := by kernel_rfl
theorem qa63_1 : outE (txA 1 63) = some 2 := by kernel_rfl
theorem qa63_2 : outE (txA 2 63) = some 2 := by kernel_rfl
theorem qa63_3 : outE (txA 3 63) = some 2 := by kernel_rfl
theorem qb63 : outE (txB 63) = some 2 := by kernel_rfl
theorem qc63 : outE (txC 63) = some 2 := by kernel_rfl
theorem qa67_0 : outE (txA 0 67) = some 2 := by kernel_rfl
theorem qa67_1 : outE (txA 1 67) = some 2 := by kernel_rfl
theorem qa67_2 : outE (txA 2 67) = some 2 := by kernel_rfl
theorem qa67_3 : outE (txA 3 67) = some 2 := by kernel_rfl
theorem qb67 : outE (txB 67) = some 2 := by kernel_rfl
theorem qc67 : outE (txC 67) = some 2 := by kernel_rfl
theorem qa71_0 : outE (txA 0 71) = some 2 := by kernel_rfl
theorem qa71_1 : outE (txA 1 71) = some 2 := by kernel_rfl
theorem qa71_2 : outE (txA 2 71) = some 2 := by kernel_rfl
theorem qa71_3 : outE (txA 3 71) = some 2 := by kernel_rfl
theorem qb71 : outE (txB 71) = some 2 := by kernel_rfl
theorem qc71 : outE (txC 71) = some 2 := by kernel_rfl
theorem qa75_0 : outE (txA 0 75) = some 2 := by kernel_rfl
theorem qa75_1 : outE (txA 1 75) = some 2 := by kernel_rfl
theorem qa75_2 : outE (txA 2 75) = some 2 := by kernel_rfl
theorem qa75_3 : outE (txA 3 75) = some 2 := by kernel_rfl
theorem qb75 : outE (txB 75) = some 2 := by kernel_rfl
theorem qc75 : outE (txC 75) = some 2 := by kernel_rfl
theorem qa79_0 : outE (txA 0 79) = some 2 := by kernel_rfl
theorem qa79_1 : outE (txA 1 79) = some 2 := by kernel_rfl
theorem qa79_2 : outE (txA 2 79) = some 2 := by kernel_rfl
theorem qa79_3 : outE (txA 3 79) = some 2 := by kernel_rfl
theorem qb79 : outE (txB 79) = some 2 := by kernel_rfl
theorem qc79 : outE (txC 79) = some 2 := by kernel_rfl
end Go.Proofs.YtachednafdmmaaaDoor.AI
