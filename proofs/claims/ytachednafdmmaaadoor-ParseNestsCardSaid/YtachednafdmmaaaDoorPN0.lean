/- ParseNests: runs. -/
import Derived.Test.YtachednafdmmaaaDoorPP3
import Derived.KernelRfl
namespace Go.Proofs.YtachednafdmmaaaDoor.AI
open Go Go.RowKit
set_option linter.unusedVariables false
set_option maxRecDepth 100000
theorem qa1_0 : outE (txA 0 1) = some 0 := by kernel_rfl
theorem qa1_1 : outE (txA 1 1) = some 0 := by kernel_rfl
theorem qa1_2 : outE (txA 2 1) = some 0 := by kernel_rfl
theorem qa1_3 : outE (txA 3 1) = some 0 := by kernel_rfl
theorem qb1 : outE (txB 1) = some 0 := by kernel_rfl
theorem qc1 : outE (txC 1) = some 0 := by kernel_rfl
theorem qa5_0 : outE (txA 0 5) = some 0 := by kernel_rfl
theorem qa5_1 : outE (txA 1 5) = some 0 := by kernel_rfl
theorem qa5_2 : outE (txA 2 5) = some 0 := by kernel_rfl
theorem qa5_3 : outE (txA 3 5) = some 0 := by kernel_rfl
theorem qb5 : outE (txB 5) = some 0 := by kernel_rfl
theorem qc5 : outE (txC 5) = some 0 := by kernel_rfl
theorem qa9_0 : outE (txA 0 9) = some 0 := by kernel_rfl
theorem qa9_1 : outE (txA 1 9) = some 0 := by kernel_rfl
theorem qa9_2 : outE (txA 2 9) = some 0 := by kernel_rfl
theorem qa9_3 : outE (txA 3 9) = some 0 := by kernel_rfl
theorem qb9 : outE (txB 9) = some 0 := by kernel_rfl
theorem qc9 : outE (txC 9) = some 0 := by kernel_rfl
theorem qa13_0 : outE (txA 0 13) = some 0 := by kernel_rfl
theorem qa13_1 : outE (txA 1 13) = some 0 := by kernel_rfl
theorem qa13_2 : outE (txA 2 13) = some 0 := by kernel_rfl
theorem qa13_3 : outE (txA 3 13) = some 0 := by kernel_rfl
theorem qb13 : outE (txB 13) = some 0 := by kernel_rfl
theorem qc13 : outE (txC 13) = some 0 := by kernel_rfl
theorem qa17_0 : outE (txA 0 17) = some 0 := by kernel_rfl
theorem qa17_1 : outE (txA 1 17) = some 0 := by kernel_rfl
theorem qa17_2 : outE (txA 2 17) = some 0 := by kernel_rfl
theorem qa17_3 : outE (txA 3 17) = some 0 := by kernel_rfl
theorem qb17 : outE (txB 17) = some 0 := by kernel_rfl
theorem qc17 : outE (txC 17) = some 0 := by kernel_rfl
theorem qa21_0 : outE (txA 0 21) = some 0 := by kernel_rfl
theorem qa21_1 : outE (txA 1 21) = some 0 := by kernel_rfl
theorem qa21_2 : outE (txA 2 21) = some 0 := by kernel_rfl
theorem qa21_3 : outE (txA 3 21) = some 0 := by kernel_rfl
theorem qb21 : outE (txB 21) = some 0 := by kernel_rfl
theorem qc21 : outE (txC 21) = some 0 := by kernel_rfl
theorem qa25_0 : outE (txA 0 25) = some 0 := by kernel_rfl
theorem qa25_1 : outE (txA 1 25) = some 0 := by kernel_rfl
theorem qa25_2 : outE (txA 2 25) = some 0 := by kernel_rfl
theorem qa25_3 : outE (txA 3 25) = some 0 := by kernel_rfl
theorem qb25 : outE (txB 25) = some 0 := by kernel_rfl
theorem qc25 : outE (txC 25) = some 0 := by kernel_rfl
theorem qa29_0 : outE (txA 0 29) = some 0 := by kernel_rfl
theorem qa29_1 : outE (txA 1 29) = some 0 := by kernel_rfl
theorem qa29_2 : outE (txA 2 29) = some 0 := by kernel_rfl
theorem qa29_3 : outE (txA 3 29) = some 0 := by kernel_rfl
theorem qb29 : outE (txB 29) = some 0 := by kernel_rfl
theorem qc29 : outE (txC 29) = some 0 := by kernel_rfl
theorem qa33_0 : outE (txA 0 33) = some 0 := by kernel_rfl
theorem qa33_1 : outE (txA 1 33) = some 0 := by kernel_rfl
theorem qa33_2 : outE (txA 2 33) = some 0 := by kernel_rfl
theorem qa33_3 : outE (txA 3 33) = some 0 := by kernel_rfl
theorem qb33 : outE (txB 33) = some 0 := by kernel_rfl
theorem qc33 : outE (txC 33) = some 0 := by kernel_rfl
theorem qa37_0 : outE (txA 0 37) = some 0 := by kernel_rfl
theorem qa37_1 : outE (txA 1 37) = some 0 := by kernel_rfl
theorem qa37_2 : outE (txA 2 37) = some 0 := by kernel_rfl
theorem qa37_3 : outE (txA 3 37) = some 0 := by kernel_rfl
theorem qb37 : outE (txB 37) = some 0 := by kernel_rfl
theorem qc37 : outE (txC 37) = some 0 := by kernel_rfl
theorem qa41_0 : outE (txA 0 41) = some 0 := by kernel_rfl
theorem qa41_1 : outE (txA 1 41) = some 0 := by kernel_rfl
theorem qa41_2 : outE (txA 2 41) = some 0 := by kernel_rfl
theorem qa41_3 : outE (txA 3 41) = some 0 := by kernel_rfl
theorem qb41 : outE (txB 41) = some 0 := by kernel_rfl
theorem qc41 : outE (txC 41) = some 0 := by kernel_rfl
theorem qa45_0 : outE (txA 0 45) = some 0 := by kernel_rfl
theorem qa45_1 : outE (txA 1 45) = some 0 := by kernel_rfl
theorem qa45_2 : outE (txA 2 45) = some 0 := by kernel_rfl
theorem qa45_3 : outE (txA 3 45) = some 0 := by kernel_rfl
theorem qb45 : outE (txB 45) = some 0 := by kernel_rfl
theorem qc45 : outE (txC 45) = some 0 := by kernel_rfl
theorem qa49_0 : outE (txA 0 49) = some 0 := by kernel_rfl
theorem qa49_1 : outE (txA 1 49) = some 0 := by kernel_rfl
theorem qa49_2 : outE (txA 2 49) = some 0 := by kernel_rfl
theorem qa49_3 : outE (txA 3 49) = some 0 := by kernel_rfl
theorem qb49 : outE (txB 49) = some 0 := by kernel_rfl
theorem qc49 : outE (txC 49) = some 0 := by kernel_rfl
theorem qa53_0 : outE (txA 0 53) = some 0 := by kernel_rfl
theorem qa53_1 : outE (txA 1 53) = some 0 := by kernel_rfl
theorem qa53_2 : outE (txA 2 53) = some 0 := by kernel_rfl
theorem qa53_3 : outE (txA 3 53) = some 0 := by kernel_rfl
theorem qb53 : outE (txB 53) = some 0 := by kernel_rfl
theorem qc53 : outE (txC 53) = some 0 := by kernel_rfl
theorem qa57_0 : outE (txA 0 57) = some 0 := by kernel_rfl
theorem qa57_1 : outE (txA 1 57) = some 0 := by kernel_rfl
theorem qa57_2 : outE (txA 2 57) = some 0 := by kernel_rfl
theorem qa57_3 : outE (txA 3 57) = some 0 := by kernel_rfl
theorem qb57 : outE (txB 57) = some 0 := by kernel_rfl
theorem qc57 : outE (txC 57) = some 0 := by kernel_rfl
theorem qa61_0 : outE (txA 0 61) = some 2 := by kernel_rfl
theorem qa61_1 : outE (txA 1 61) = some 2 := by kernel_rfl
theorem qa61_2 : outE (txA 2 61) = some 2 := by kernel_rfl
theorem qa61_3 : outE (txA 3 61) = some 2 := by kernel_rfl
theorem qb61 : outE (txB 61) = some 2 := by kernel_rfl
theorem qc61 : outE (txC 61) = some 2 := by kernel_rfl
theorem qa65_0 : outE (txA 0 65) = some 2 := by kernel_rfl
theorem qa65_1 : outE (txA 1 65) = some 2 := by kernel_rfl
theorem qa65_2 : outE (txA 2 65) = some 2 := by kernel_rfl
theorem qa65_3 : outE (txA 3 65) = some 2 := by kernel_rfl
theorem qb65 : outE (txB 65) = some 2 := by kernel_rfl
theorem qc65 : outE (txC 65) = some 2 := by kernel_rfl
theorem qa69_0 : outE (txA 0 69) = some 2 := by kernel_rfl
theorem qa69_1 : outE (txA 1 69) = some 2 := by kernel_rfl
theorem qa69_2 : outE (txA 2 69) = some 2 := by kernel_rfl
theorem qa69_3 : outE (txA 3 69) = some 2 := by kernel_rfl
theorem qb69 : outE (txB 69) = some 2 := by kernel_rfl
theorem qc69 : outE (txC 69) = some 2 := by kernel_rfl
theorem qa73_0 : outE (txA 0 73) = some 2 := by kernel_rfl
theorem qa73_1 : outE (txA 1 73) = some 2 := by kernel_rfl
theorem qa73_2 : outE (txA 2 73) = some 2 := by kernel_rfl
theorem qa73_3 : outE (txA 3 73) = some 2 := by kernel_rfl
theorem qb73 : outE (txB 73) = some 2 := by kernel_rfl
theorem qc73 : outE (txC 73) = some 2 := by kernel_rfl
theorem qa77_0 : outE (txA 0 77) = some 2 := by kernel_rfl
theorem qa77_1 : outE (txA 1 77) = some 2 := by kernel_rfl
theorem qa77_2 : outE (txA 2 77) = some 2 := by kernel_rfl
theorem qa77_3 : outE (txA 3 77) = some 2 := by kernel_rfl
theorem qb77 : outE (txB 77) = some 2 := by kernel_rfl
theorem qc77 : outE (txC 77) = some 2 := by kernel_rfl
end Go.Proofs.YtachednafdmmaaaDoor.AI
