/- CheckFlows: runs. -/
import Derived.Test.YtgfjnnkhlgmbcaaGreatSXc
import Derived.KernelRfl
namespace Go.Proofs.YtgfjnnkhlgmbcaaGreat.AI
open Go Go.RowKit 
set_option linter.unusedVariables false
set_option linter.unusedSimpArgs false
set_option maxRecDepth 100000
theorem fl_4 : fl (.ofNat 4) = true := by kernel_rfl
theorem fl_5 : fl (.ofNat 5) = true := by kernel_rfl
theorem fl_6 : fl (.ofNat 6) = true := by kernel_rfl
theorem fl_7 : fl (.ofNat 7) = true := by kernel_rfl
end Go.Proofs.YtgfjnnkhlgmbcaaGreat.AI
