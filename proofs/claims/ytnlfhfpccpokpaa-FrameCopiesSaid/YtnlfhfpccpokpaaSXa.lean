/- A law of two numbers, run with numbers that are not known. -/
import Derived.Test.YtnlfhfpccpokpaaProg
import Derived.Test.YtnlfhfpccpokpaaAIt
import Derived.Laws.BitsLemmas
import Derived.KernelRfl
namespace Go.Proofs.Ytnlfhfpccpokpaa.AI
open Go Go.RowKit
set_option linter.unusedVariables false
set_option linter.unusedSimpArgs false
set_option maxRecDepth 100000 in
theorem copies_run (a b : Int) : runI Try.prog gl0 (regF Try.prog gl0) 40 Try.f6 [.int .i64 a, .int .i64 b] h0 = some (.bool true) := by
  have h : runI Try.prog gl0 (regF Try.prog gl0) 40 Try.f6 [.int .i64 a, .int .i64 b] h0 = (bif a == a then some (Value.bool Bool.true) else some (Value.bool Bool.false)) := by kernel_rfl
  rw [h, beq_self_eq_true]; rfl
theorem copies_walk (a b : Int) (w : World) : Calls Try.prog 6 #[.int .i64 a, .int .i64 b] w fun e w' => e = .returned (.bool true) ∧ Below w.heap.size w w' :=
  runI_calls (regF_ok (by kernel_rfl)) Try.func6 rfl (by kernel_rfl) (copies_run a b) rfl rfl w
end Go.Proofs.Ytnlfhfpccpokpaa.AI
