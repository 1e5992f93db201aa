/- ParseNests: runs. -/
import Derived.Test.YtachednafdmmaaaDoorPP3
import Derived.KernelRfl
namespace Go.Proofs.YtachednafdmmaaaDoor.AI
open Go Go.RowKit
set_option linter.unusedVariables false
set_option maxRecDepth 100000
theorem qa4_0 : outE (txA 0 4) = some 0 := by kernel_rfl
theorem qa4_1 : outE (txA 1 4) = some 0 := by kernel_rfl
theorem qa4_2 : outE (txA 2 4) = some 0 := by kernel_rfl
theorem qa4_3 : outE (txA 3 4) = some 0 := by kernel_rfl
theorem qb4 : outE (txB 4) = some 0 := by kernel_rfl
theorem qc4 : outE (txC 4) = some 0 := by kernel_rfl
theorem qa8_0 : outE (txA 0 8) = some 0 := by kernel_rfl
theorem qa8_1 : outE (txA 1 8) = some 0 := by kernel_rfl
theorem qa8_2 : outE (txA 2 8) = some 0 := by kernel_rfl
theorem qa8_3 : outE (txA 3 8) = some 0 := by kernel_rfl
theorem qb8 : outE (txB 8) = some 0 := by kernel_rfl
theorem qc8 : outE (txC 8) = some 0 := by kernel_rfl
theorem qa12_0 : outE (txA 0 12) = some 0 := by kernel_rfl
theorem qa12_1 : outE (txA 1 12) = some 0 := by kernel_rfl
theorem qa12_2 : outE (txA 2 12) = some 0 := by kernel_rfl
theorem qa12_3 : outE (txA 3 12) = some 0 := by kernel_rfl
theorem qb12 : outE (txB 12) = some 0 := by kernel_rfl
theorem qc12 : outE (txC 12) = some 0 := by kernel_rfl
theorem qa16_0 : outE (txA 0 16) = some 0 := by kernel_rfl
theorem qa16_1 : outE (txA 1 16) = some 0 := by kernel_rfl
theorem qa16_2 : outE (txA 2 16) = some 0 := by kernel_rfl
theorem qa16_3 : outE (txA 3 16) = some 0 := by kernel_rfl
theorem qb16 : outE (txB 16) = some 0 := by kernel_rfl
theorem qc16 : outE (txC 16) = some 0 := by kernel_rfl
theorem qa20_0 : outE (txA 0 20) = some 0 := by kernel_rfl
theorem qa20_1 : outE (txA 1 20) = some 0 := by kernel_rfl
theorem qa20_2 : outE (txA 2 20) = some 0 := by kernel_rfl
theorem qa20_3 : outE (txA 3 20) = some 0 := by kernel_rfl
theorem qb20 : outE (txB 20) = some 0 := by kernel_rfl
theorem qc20 : outE (txC 20) = some 0 := by kernel_rfl
theorem qa24_0 : outE (txA 0 24) = some 0 := by kernel_rfl
theorem qa24_1 : outE (txA 1 24) = some 0 := by kernel_rfl
theorem qa24_2 : outE (txA 2 24) = some 0 := by kernel_rfl
theorem qa24_3 : outE (txA 3 24) = some 0 := by kernel_rfl
theorem qb24 : outE (txB 24) = some 0 := by kernel_rfl
theorem qc24 : outE (txC 24) = some 0 := by kernel_rfl
theorem qa28_0 : outE (txA 0 28) = some 0 := by kernel_rfl
theorem qa28_1 : outE (txA 1 28) = some 0 := by kernel_rfl
theorem qa28_2 : outE (txA 2 28) = some 0 := by kernel_rfl
theorem qa28_3 : outE (txA 3 28) = some 0 := by kernel_rfl
theorem qb28 : outE (txB 28) = some 0 := by kernel_rfl
theorem qc28 : outE (txC 28) = some 0 := by kernel_rfl
theorem qa32_0 : outE (txA 0 32) = some 0 := by kernel_rfl
theorem qa32_1 : outE (txA 1 32) = some 0 := by kernel_rfl
theorem qa32_2 : outE (txA 2 32) = some 0 := by kernel_rfl
theorem qa32_3 : outE (txA 3 32) = some 0 := by kernel_rfl
theorem qb32 : outE (txB 32) = some 0 := by kernel_rfl
theorem qc32 : outE (txC 32) = some 0 := by kernel_rfl
theorem qa36_0 : outE (txA 0 36) = some 0 := by kernel_rfl
theorem qa36_1 : outE (txA 1 36) = some 0 := by kernel_rfl
theorem qa36_2 : outE (txA 2 36) = some 0 := by kernel_rfl
theorem qa36_3 : outE (txA 3 36) = some 0 := by kernel_rfl
theorem qb36 : outE (txB 36) = some 0 := by kernel_rfl
theorem qc36 : outE (txC 36) = some 0 := by kernel_rfl
theorem qa40_0 : outE (txA 0 40) = some 0 := by kernel_rfl
theorem qa40_1 : outE (txA 1 40) = some 0 := by kernel_rfl
theorem qa40_2 : outE (txA 2 40) = some 0 := by kernel_rfl
theorem qa40_3 : outE (txA 3 40) = some 0 := by kernel_rfl
theorem qb40 : outE (txB 40) = some 0 := by kernel_rfl
theorem qc40 : outE (txC 40) = some 0 := by kernel_rfl
theorem qa44_0 : outE (txA 0 44) = some 0 := by kernel_rfl
theorem qa44_1 : outE (txA 1 44) = some 0 := by kernel_rfl
theorem qa44_2 : outE (txA 2 44) = some 0 := by kernel_rfl
theorem qa44_3 : outE (txA 3 44) = some 0 := by kernel_rfl
theorem qb44 : outE (txB 44) = some 0 := by kernel_rfl
theorem qc44 : outE (txC 44) = some 0 := by kernel_rfl
theorem qa48_0 : outE (txA 0 48) = some 0 := by kernel_rfl
theorem qa48_1 : outE (txA 1 48) = some 0 := by kernel_rfl
theorem qa48_2 : outE (txA 2 48) = some 0 := by kernel_rfl
theorem qa48_3 : outE (txA 3 48) = some 0 := by kernel_rfl
theorem qb48 : outE (txB 48) = some 0 := by kernel_rfl
theorem qc48 : outE (txC 48) = some 0 := by kernel_rfl
theorem qa52_0 : outE (txA 0 52) = some 0 := by kernel_rfl
theorem qa52_1 : outE (txA 1 52) = some 0 := by kernel_rfl
theorem qa52_2 : outE (txA 2 52) = some 0 := by kernel_rfl
theorem qa52_3 : outE (txA 3 52) = some 0 := by kernel_rfl
theorem qb52 : outE (txB 52) = some 0 := by kernel_rfl
theorem qc52 : outE (txC 52) = some 0 := by kernel_rfl
theorem qa56_0 : outE (txA 0 56) = some 0 := by kernel_rfl
theorem qa56_1 : outE (txA 1 56) = some 0 := by kernel_rfl
theorem qa56_2 : outE (txA 2 56) = some 0 := by kernel_rfl
theorem qa56_3 : outE (txA 3 56) = some 0 := by kernel_rfl
theorem qb56 : outE (txB 56) = some 0 := by kernel_rfl
theorem qc56 : outE (txC 56) = some 0 := by kernel_rfl
theorem qa60_0 : outE (txA 0 60) = some 2 := by kernel_rfl
theorem qa60_1 : outE (txA 1 60) = some 2 := by kernel_rfl
theorem qa60_2 : outE (txA 2 60) = some 2 := by kernel_rfl
theorem qa60_3 : outE (txA 3 60) = some 2 := by kernel_rfl
theorem qb60 : outE (txB 60) = some 0 := by kernel_rfl
theorem qc60 : outE (txC 60) = some 2 := by kernel_rfl
theorem qa64_0 : outE (txA 0 64) = some 2 := by kernel_rfl
theorem qa64_1 : outE (txA 1 64) = some 2 := by kernel_rfl
theorem qa64_2 : outE (txA 2 64) = some 2 := by kernel_rfl
theorem qa64_3 : outE (txA 3 64) = some 2 := by kernel_rfl
theorem qb64 : outE (txB 64) = some 2 := by kernel_rfl
theorem qc64 : outE (txC 64) = some 2 := by kernel_rfl
theorem qa68_0 : outE (txA 0 68) = some 2 := by kernel_rfl
theorem qa68_1 : outE (txA 1 68) = some 2 := by kernel_rfl
theorem qa68_2 : outE (txA 2 68) = some 2 := by kernel_rfl
theorem qa68_3 : outE (txA 3 68) = some 2 := by kernel_rfl
theorem qb68 : outE (txB 68) = some 2 := by kernel_rfl
theorem qc68 : outE (txC 68) = some 2 := by kernel_rfl
theorem qa72_0 : outE (txA 0 72) = some 2 := by kernel_rfl
theorem qa72_1 : outE (txA 1 72) = some 2 := by kernel_rfl
theorem qa72_2 : outE (txA 2 72) = some 2 := by kernel_rfl
theorem qa72_3 : outE (txA 3 72) = some 2 := by kernel_rfl
theorem qb72 : outE (txB 72) = some 2 := by kernel_rfl
theorem qc72 : outE (txC 72) = some 2 := by kernel_rfl
theorem qa76_0 : outE (txA 0 76) = some 2 := by kernel_rfl
theorem qa76_1 : outE (txA 1 76) = some 2 := by kernel_rfl
theorem qa76_2 : outE (txA 2 76) = some 2 := by kernel_rfl
theorem qa76_3 : outE (txA 3 76) = some 2 := by kernel_rfl
theorem qb76 : outE (txB 76) = some 2 := by kernel_rfl
theorem qc76 : outE (txC 76) = some 2 := by kernel_rfl
theorem qa80_0 : outE (txA 0 80) = some 2 := by kernel_rfl
theorem qa80_1 : outE (txA 1 80) = some 2 := by kernel_rfl
theorem qa80_2 : outE (txA 2 80) = some 2 := by kernel_rfl
theorem qa80_3 : outE (txA 3 80) = some 2 := by kernel_rfl
theorem qb80 : outE (txB 80) = some 2 := by kernel_rfl
theorem qc80 : outE (txC 80) = some 2 := by kernel_rfl
end Go.Proofs.YtachednafdmmaaaDoor.AI
