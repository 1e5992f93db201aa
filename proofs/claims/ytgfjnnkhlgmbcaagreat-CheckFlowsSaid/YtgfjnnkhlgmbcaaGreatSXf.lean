/- CheckFlows: runs. -/
import Derived.Test.YtgfjnnkhlgmbcaaGreatSXc
import Derived.KernelRfl
namespace Go.Proofs.YtgfjnnkhlgmbcaaGreat.AI
open Go Go.RowKit 
set_option linter.unusedVariables false
set_option linter.unusedSimpArgs false
set_option maxRecDepth 100000
theorem fl_8 : fl (.ofNat 8) = true := by kernel_rfl
theorem fl_9 : fl (.ofNat 9) = true := by kernel_rfl
theorem fl_10 : fl (.ofNat 10) = true := by kernel_rfl
theorem fl_11 : fl (.ofNat 11) = true := by kernel_rfl
end Go.Proofs.YtgfjnnkhlgmbcaaGreat.AI
