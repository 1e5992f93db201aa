/- CheckFlows: runs. -/
import Derived.Test.YtgfjnnkhlgmbcaaGreatSXc
import Derived.KernelRfl
namespace Go.Proofs.YtgfjnnkhlgmbcaaGreat.AI
open Go Go.RowKit 
set_option linter.unusedVariables false
set_option linter.unusedSimpArgs false
set_option maxRecDepth 100000
theorem fl_0 : fl (.ofNat 0) = true := by kernel_rfl
theorem fl_1 : fl (.ofNat 1) = true := by kernel_rfl
theorem fl_2 : fl (.ofNat 2) = true := by kernel_rfl
theorem fl_3 : fl (.ofNat 3) = true := by kernel_rfl
end Go.Proofs.YtgfjnnkhlgmbcaaGreat.AI
