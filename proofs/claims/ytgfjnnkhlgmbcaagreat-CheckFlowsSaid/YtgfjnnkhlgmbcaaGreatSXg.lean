/- CheckFlows: runs. -/
import Derived.Test.YtgfjnnkhlgmbcaaGreatSXc
import Derived.KernelRfl
namespace Go.Proofs.YtgfjnnkhlgmbcaaGreat.AI
open Go Go.RowKit 
set_option linter.unusedVariables false
set_option linter.unusedSimpArgs false
set_option maxRecDepth 100000
theorem fl_12 : fl (.ofNat 12) = true := by kernel_rfl
theorem fl_13 : fl (.ofNat 13) = true := by kernel_rfl
theorem fl_14 : fl (.ofNat 14) = true := by kernel_rfl
theorem fl_15 : fl (.ofNat 15) = true := by kernel_rfl
end Go.Proofs.YtgfjnnkhlgmbcaaGreat.AI
