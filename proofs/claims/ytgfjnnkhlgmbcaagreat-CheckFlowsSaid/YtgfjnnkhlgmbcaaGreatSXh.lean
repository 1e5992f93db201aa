/- CheckFlows: every input. -/
import Derived.Test.YtgfjnnkhlgmbcaaGreatSXd
import Derived.Test.YtgfjnnkhlgmbcaaGreatSXe
import Derived.Test.YtgfjnnkhlgmbcaaGreatSXf
import Derived.Test.YtgfjnnkhlgmbcaaGreatSXg
import Derived.KernelRfl
namespace Go.Proofs.YtgfjnnkhlgmbcaaGreat.AI
open Go Go.RowKit 
set_option linter.unusedVariables false
set_option linter.unusedSimpArgs false
theorem fl_all : ∀ (a : Int), fl a = true
  | .negSucc m => fl_neg m
  | .ofNat 0 => fl_0
  | .ofNat 1 => fl_1
  | .ofNat 2 => fl_2
  | .ofNat 3 => fl_3
  | .ofNat 4 => fl_4
  | .ofNat 5 => fl_5
  | .ofNat 6 => fl_6
  | .ofNat 7 => fl_7
  | .ofNat 8 => fl_8
  | .ofNat 9 => fl_9
  | .ofNat 10 => fl_10
  | .ofNat 11 => fl_11
  | .ofNat 12 => fl_12
  | .ofNat 13 => fl_13
  | .ofNat 14 => fl_14
  | .ofNat 15 => fl_15
  | .ofNat (m + 16) => fl_out m
theorem flows_walk (a : Int) (w : World) : Calls Tryz.prog 6 #[.int .i64 a] w fun e w' => e = .returned (.bool true) ∧ Below w.heap.size w w' :=
  fast_callsT hmix T2_ok tabK_is tabK_no (okO_some (fl_all a)) rfl rfl w
end Go.Proofs.YtgfjnnkhlgmbcaaGreat.AI
