/- ParseNests: runs. -/
import Derived.Test.YtachednafdmmaaaDoorPP3
import Derived.KernelRfl
namespace Go.Proofs.YtachednafdmmaaaDoor.AI
open Go Go.RowKit
set_option linter.unusedVariables false
set_option maxRecDepth 100000
theorem qa2_0 : outE (txA 0 2) = some 0 := by kernel_rfl
theorem qa2_1 : outE (txA 1 2) = some 0 := by kernel_rfl
theorem qa2_2 : outE (txA 2 2) = some 0 := by kernel_rfl
theorem qa2_3 : outE (txA 3 2) = some 0 := by kernel_rfl
theorem qb2 : outE (txB 2) = some 0 := by kernel_rfl
theorem qc2 : outE (txC 2) = some 0 := by kernel_rfl
theorem qa6_0 : outE (txA 0 6) = some 0 := by kernel_rfl
theorem qa6_1 : outE (txA 1 6) = some 0 := by kernel_rfl
theorem qa6_2 : outE (txA 2 6) = some 0 := by kernel_rfl
theorem qa6_3 : outE (txA 3 6) = some 0 := by kernel_rfl
theorem qb6 : outE (txB 6) = some 0 := by kernel_rfl
theorem qc6 : outE (txC 6) = some 0 := by kernel_rfl
theorem qa10_0 : outE (txA 0 10) = some 0 := by kernel_rfl
theorem qa10_1 : outE (txA 1 10) = some 0 := by kernel_rfl
theorem qa10_2 : outE (txA 2 10) = some 0 := by kernel_rfl
theorem qa10_3 : outE (txA 3 10) = some 0 := by kernel_rfl
theorem qb10 : outE (txB 10) = some 0 := by kernel_rfl
theorem qc10 : outE (txC 10) = some 0 := by kernel_rfl
theorem qa14_0 : outE (txA 0 14) = some 0 := by kernel_rfl
theorem qa14_1 : outE (txA 1 14) = some 0 := by kernel_rfl
theorem qa14_2 : outE (txA 2 14) = some 0 := by kernel_rfl
theorem qa14_3 : outE (txA 3 14) = some 0 := by kernel_rfl
theorem qb14 : outE (txB 14) = some 0 := by kernel_rfl
theorem qc14 : outE (txC 14) = some 0 := by kernel_rfl
theorem qa18_0 : outE (txA 0 18) = some 0 := by kernel_rfl
theorem qa18_1 : outE (txA 1 18) = some 0 := by kernel_rfl
theorem qa18_2 : outE (txA 2 18) = some 0 := by kernel_rfl
theorem qa18_3 : outE (txA 3 18) = some 0 := by kernel_rfl
theorem qb18 : outE (txB 18) = some 0 := by kernel_rfl
theorem qc18 : outE (txC 18) = some 0 := by kernel_rfl
theorem qa22_0 : outE (txA 0 22) = some 0 := by kernel_rfl
theorem qa22_1 : outE (txA 1 22) = some 0 := by kernel_rfl
theorem qa22_2 : outE (txA 2 22) = some 0 := by kernel_rfl
theorem qa22_3 : outE (txA 3 22) = some 0 := by kernel_rfl
theorem qb22 : outE (txB 22) = some 0 := by kernel_rfl
theorem qc22 : outE (txC 22) = some 0 := by kernel_rfl
theorem qa26_0 : outE (txA 0 26) = some 0 := by kernel_rfl
theorem qa26_1 : outE (txA 1 26) = some 0 := by kernel_rfl
theorem qa26_2 : outE (txA 2 26) = some 0 := by kernel_rfl
theorem qa26_3 : outE (txA 3 26) = some 0 := by kernel_rfl
theorem qb26 : outE (txB 26) = some 0 := by kernel_rfl
theorem qc26 : outE (txC 26) = some 0 := by kernel_rfl
theorem qa30_0 : outE (txA 0 30) = some 0 := by kernel_rfl
theorem qa30_1 : outE (txA 1 30) = some 0 := by kernel_rfl
theorem qa30_2 : outE (txA 2 30) = some 0 := by kernel_rfl
theorem qa30_3 : outE (txA 3 30) = some 0 := by kernel_rfl
theorem qb30 : outE (txB 30) = some 0 := by kernel_rfl
theorem qc30 : outE (txC 30) = some 0 := by kernel_rfl
theorem qa34_0 : outE (txA 0 34) = some 0 := by kernel_rfl
theorem qa34_1 : outE (txA 1 34) = some 0 := by kernel_rfl
theorem qa34_2 : outE (txA 2 34) = some 0 := by kernel_rfl
theorem qa34_3 : outE (txA 3 34) = some 0 := by kernel_rfl
theorem qb34 : outE (txB 34) = some 0 := by kernel_rfl
theorem qc34 : outE (txC 34) = some 0 := by kernel_rfl
theorem qa38_0 : outE (txA 0 38) = some 0 := by kernel_rfl
theorem qa38_1 : outE (txA 1 38) = some 0 := by kernel_rfl
theorem qa38_2 : outE (txA 2 38) = some 0 := by kernel_rfl
theorem qa38_3 : outE (txA 3 38) = some 0 := by kernel_rfl
theorem qb38 : outE (txB 38) = some 0 := by kernel_rfl
theorem qc38 : outE (txC 38) = some 0 := by kernel_rfl
theorem qa42_0 : outE (txA 0 42) = some 0 := by kernel_rfl
theorem qa42_1 : outE (txA 1 42) = some 0 := by kernel_rfl
theorem qa42_2 : outE (txA 2 42) = some 0 := by kernel_rfl
theorem qa42_3 : outE (txA 3 42) = some 0 := by kernel_rfl
theorem qb42 : outE (txB 42) = some 0 := by kernel_rfl
theorem qc42 : outE (txC 42) = some 0 := by kernel_rfl
theorem qa46_0 : outE (txA 0 46) = some 0 := by kernel_rfl
theorem qa46_1 : outE (txA 1 46) = some 0 := by kernel_rfl
theorem qa46_2 : outE (txA 2 46) = some 0 := by kernel_rfl
theorem qa46_3 : outE (txA 3 46) = some 0 := by kernel_rfl
theorem qb46 : outE (txB 46) = some 0 := by kernel_rfl
theorem qc46 : outE (txC 46) = some 0 := by kernel_rfl
theorem qa50_0 : outE (txA 0 50) = some 0 := by kernel_rfl
theorem qa50_1 : outE (txA 1 50) = some 0 := by kernel_rfl
theorem qa50_2 : outE (txA 2 50) = some 0 := by kernel_rfl
theorem qa50_3 : outE (txA 3 50) = some 0 := by kernel_rfl
theorem qb50 : outE (txB 50) = some 0 := by kernel_rfl
theorem qc50 : outE (txC 50) = some 0 := by kernel_rfl
theorem qa54_0 : outE (txA 0 54) = some 0 := by kernel_rfl
theorem qa54_1 : outE (txA 1 54) = some 0 := by kernel_rfl
theorem qa54_2 : outE (txA 2 54) = some 0 := by kernel_rfl
theorem qa54_3 : outE (txA 3 54) = some 0 := by kernel_rfl
theorem qb54 : outE (txB 54) = some 0 := by kernel_rfl
theorem qc54 : outE (txC 54) = some 0 := by kernel_rfl
theorem qa58_0 : outE (txA 0 58) = some 0 := by kernel_rfl
theorem qa58_1 : outE (txA 1 58) = some 0 := by kernel_rfl
theorem qa58_2 : outE (txA 2 58) = some 0 := by kernel_rfl
theorem qa58_3 : outE (txA 3 58) = some 0 := by kernel_rfl
theorem qb58 : outE (txB 58) = some 0 := by kernel_rfl
theorem qc58 : outE (txC 58) = some 0 := by kernel_rfl
theorem qa62_0 : outE (txA 0 62) = some 2 := by kernel_rfl
theorem qa62_1 : outE (txA 1 62) = some 2 := by kernel_rfl
theorem qa62_2 : outE (txA 2 62) = some 2 := by kernel_rfl
theorem qa62_3 : outE (txA 3 62) = some 2 := by kernel_rfl
theorem qb62 : outE (txB 62) = some 2 := by kernel_rfl
theorem qc62 : outE (txC 62) = some 2 := by kernel_rfl
theorem qa66_0 : outE (txA 0 66) = some 2 := by kernel_rfl
theorem qa66_1 : outE (txA 1 66) = some 2 := by kernel_rfl
theorem qa66_2 : outE (txA 2 66) = some 2 := by kernel_rfl
theorem qa66_3 : outE (txA 3 66) = some 2 := by kernel_rfl
theorem qb66 : outE (txB 66) = some 2 := by kernel_rfl
theorem qc66 : outE (txC 66) = some 2 := by kernel_rfl
theorem qa70_0 : outE (txA 0 70) = some 2 := by kernel_rfl
theorem qa70_1 : outE (txA 1 70) = some 2 := by kernel_rfl
theorem qa70_2 : outE (txA 2 70) = some 2 := by kernel_rfl
theorem qa70_3 : outE (txA 3 70) = some 2 := by kernel_rfl
theorem qb70 : outE (txB 70) = some 2 := by kernel_rfl
theorem qc70 : outE (txC 70) = some 2 := by kernel_rfl
theorem qa74_0 : outE (txA 0 74) = some 2 := by kernel_rfl
theorem qa74_1 : outE (txA 1 74) = some 2 := by kernel_rfl
theorem qa74_2 : outE (txA 2 74) = some 2 := by kernel_rfl
theorem qa74_3 : outE (txA 3 74) = some 2 := by kernel_rfl
theorem qb74 : outE (txB 74) = some 2 := by kernel_rfl
theorem qc74 : outE (txC 74) = some 2 := by kernel_rfl
theorem qa78_0 : outE (txA 0 78) = some 2 := by kernel_rfl
theorem qa78_1 : outE (txA 1 78) = some 2 := by kernel_rfl
theorem qa78_2 : outE (txA 2 78) = some 2 := by kernel_rfl
theorem qa78_3 : outE (txA 3 78) = some 2 := by kernel_rfl
theorem qb78 : outE (txB 78) = some 2 := by kernel_rfl
theorem qc78 : outE (txC 78) = some 2 := by kernel_rfl
end Go.Proofs.YtachednafdmmaaaDoor.AI
