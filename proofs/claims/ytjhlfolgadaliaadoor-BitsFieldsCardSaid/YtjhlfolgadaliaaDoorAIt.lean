/- The abstract interpreter: a function's own code in a world that holds tables. -/
import Derived.Test.YtjhlfolgadaliaaDoorAIx
import Derived.Test.YtjhlfolgadaliaaDoorAIy
namespace Go.Proofs.YtjhlfolgadaliaaDoor.AI
open Go Go.RowKit
set_option linter.unusedVariables false

variable {P : Program}

theorem tabs_callsV {l : Tabs} {reg : CallA → Array Oper → St → Option St} (hreg : RegOK P (glT l) reg) {call : CallA} (hcall : CallOK P (glT l) call) {fuel : Nat} {g : FuncId} {fn : Func} {c : Code} {ar : List Value} {v : Value}
    (hfn : P.funcs[g]? = some fn) (hb : fn.body = some c) (hname : (fn.name == "runtime.NumGoroutine") = false) (hrun : runV P (glT l) reg call fuel fn ar (hT l) = some v) (hp : ar.all plainV = true) (hv : plainV v = true) (w : World) (hw : ∀ x ∈ l, Holds w x) :
    Calls P g ⟨ar⟩ w fun e w' => e = .returned v ∧ Below w.heap.size w w' := by
  obtain ⟨h', hr⟩ := runV_some hrun
  have hbody : bodyOf fn = c := by unfold bodyOf; rw [hb]
  unfold runK at hr
  rw [hbody] at hr
  refine ((oneK_ok hreg hcall (toK_ok call) hfn hb hname hr).2 (muT l) w ⟨ar⟩ (.tabs hw) (plainV_list hp)).mono ?_
  rintro e w' ⟨c', μ', rfl, g1, g2, g3⟩
  refine ⟨?_, g2.below fun i b hb => ?_⟩
  · rw [g3.plainV_eq hv]
  · obtain ⟨x, _, rfl⟩ := hT_get hb
    rfl

/-- The functions of a table, and beside it those that are run as they are (where nothing may be written). -/
def withA (P : Program) (gl : Nat → Option Nat) (k : Nat) (fs : Nat → Bool) (F : FuncId → List Value → Option Value) : CallA := orA (quietA P gl (regF P gl) k fs) (sumA F)
theorem withA_ok {gl : Nat → Option Nat} (hm : P.follows .mixedOrders = true) (k : Nat) (fs : Nat → Bool) {F : FuncId → List Value → Option Value} (hF : TabOK P F) : CallOK P gl (withA P gl k fs F) :=
  orA_ok (quietA_ok (regF_ok hm) k fs) (tab_ok hF)

end Go.Proofs.YtjhlfolgadaliaaDoor.AI
