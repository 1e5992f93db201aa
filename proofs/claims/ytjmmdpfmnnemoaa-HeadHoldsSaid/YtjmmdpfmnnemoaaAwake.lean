/- awake answers true, and leaves all that was there: by a run of the abstract interpreter. -/
import Derived.Test.YtjmmdpfmnnemoaaProg
import Derived.Test.YtjmmdpfmnnemoaaAIz
import Derived.KernelRfl
namespace Go.Proofs.Ytjmmdpfmnnemoaa.Awake
open Go Go.RowKit
theorem run : AI.okA (AI.callA Try.prog AI.gl0 (AI.regF Try.prog AI.gl0) 60 false 8 [] AI.h0) = true := by kernel_rfl
theorem awake_calls (w : World) : Calls Try.prog 8 #[] w fun e w' => e = .returned (.bool true) ∧ Below w.heap.size w w' :=
  AI.closed_law (AI.regF_ok (by kernel_rfl)) run rfl w
end Go.Proofs.Ytjmmdpfmnnemoaa.Awake
