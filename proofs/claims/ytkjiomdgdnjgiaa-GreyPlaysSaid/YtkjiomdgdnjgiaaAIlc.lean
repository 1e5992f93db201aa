/- The abstract interpreter: functions with loops, from their arguments. -/
import Derived.Test.YtkjiomdgdnjgiaaAIlb
namespace Go.Proofs.Ytkjiomdgdnjgiaa.AI
open Go Go.RowKit
set_option linter.unusedVariables false
set_option linter.unusedSimpArgs false

variable {P : Program}

/-- A function's own code, its loops known. -/
def runL (P : Program) (gl : Nat → Option Nat) (reg : CallA → Array Oper → St → Option St) (call : CallA) (LK : LoopK Value) (fn : Func) (ar : List Value) (h : AH) : Option Value :=
  codeBK P gl reg call (toK call) LK (bodyOf fn) ⟨argsT 0 ar .nil, ar.length + (fn.ntmps - ar.length), h, []⟩ (finV P fn)

theorem runL_K {gl : Nat → Option Nat} {reg : CallA → Array Oper → St → Option St} {call : CallA} {LO : LoopA} {LK : LoopK Value} (hL : LKok LO LK) {fn : Func} {ar : List Value} {h : AH} {v : Value} (hr : runL P gl reg call LK fn ar h = some v) :
    ∃ h', codeBK P gl reg call (toK call) (toLK LO) (bodyOf fn) ⟨argsT 0 ar .nil, ar.length + (fn.ntmps - ar.length), h, []⟩ (finK P fn) = some (v, h') := by
  unfold runL at hr
  rw [codeBK_eq (toK_ok call) hL] at hr
  rw [codeBK_eq (toK_ok call) (toLK_ok LO)]
  split at hr
  · rename_i x σ hc
    exact valOf_some hr
  · cases hr

theorem plain_callsL {reg : CallA → Array Oper → St → Option St} (hreg : RegOK P gl0 reg) {call : CallA} (hcall : CallOK P gl0 call) {LO : LoopA} {LK : LoopK Value} (hL : LKok LO LK) {g : FuncId} {fn : Func} {c : Code} {ar : List Value} {v : Value}
    (hfn : P.funcs[g]? = some fn) (hb : fn.body = some c) (hname : (fn.name == "runtime.NumGoroutine") = false) (hLO : LoopsOK P gl0 h0 LO (loopsOf (bodyOf fn))) (hrun : runL P gl0 reg call LK fn ar h0 = some v) (hp : ar.all plainV = true) (hv : plainV v = true) (w : World) :
    Calls P g ⟨ar⟩ w fun e w' => e = .returned v ∧ Below w.heap.size w w' := by
  obtain ⟨h', hr⟩ := runL_K hL hrun
  have hbody : bodyOf fn = c := by unfold bodyOf; rw [hb]
  rw [hbody] at hr hLO
  refine ((oneB_ok hreg hcall (toK_ok call) (toLK_ok LO) hLO hfn hb hname hr).2 (mu0 w) w ⟨ar⟩ (.none w) (plainV_list hp)).mono ?_
  rintro e w' ⟨c', μ', rfl, g1, g2, g3⟩
  exact ⟨by rw [g3.plainV_eq hv], g2.below fun i b h => (by simp [h0, AH.get, Tr.get_nil] at h)⟩

theorem tabs_callsL {l : Tabs} {reg : CallA → Array Oper → St → Option St} (hreg : RegOK P (glT l) reg) {call : CallA} (hcall : CallOK P (glT l) call) {LO : LoopA} {LK : LoopK Value} (hL : LKok LO LK) {g : FuncId} {fn : Func} {c : Code} {ar : List Value} {v : Value}
    (hfn : P.funcs[g]? = some fn) (hb : fn.body = some c) (hname : (fn.name == "runtime.NumGoroutine") = false) (hLO : LoopsOK P (glT l) (hT l) LO (loopsOf (bodyOf fn))) (hrun : runL P (glT l) reg call LK fn ar (hT l) = some v) (hp : ar.all plainV = true) (hv : plainV v = true) (w : World) (hw : ∀ x ∈ l, Holds w x) :
    Calls P g ⟨ar⟩ w fun e w' => e = .returned v ∧ Below w.heap.size w w' := by
  obtain ⟨h', hr⟩ := runL_K hL hrun
  have hbody : bodyOf fn = c := by unfold bodyOf; rw [hb]
  rw [hbody] at hr hLO
  refine ((oneB_ok hreg hcall (toK_ok call) (toLK_ok LO) hLO hfn hb hname hr).2 (muT l w) w ⟨ar⟩ (.tabs hw) (plainV_list hp)).mono ?_
  rintro e w' ⟨c', μ', rfl, g1, g2, g3⟩
  refine ⟨by rw [g3.plainV_eq hv], g2.below fun i b hb => ?_⟩
  obtain ⟨x, _, rfl⟩ := hT_get hb
  rfl

/-- The k-th loop's body of a function. -/
def loopN (fn : Func) (k : Nat) : Code := match (loopsOf (bodyOf fn))[k]? with
  | some c => c
  | none => .skip

end Go.Proofs.Ytkjiomdgdnjgiaa.AI
