/- The abstract interpreter: a function's own code in a world that holds tables. -/
import Derived.Test.YtachednafdmmaaaDoorAIx
import Derived.Test.YtachednafdmmaaaDoorAIy
import Derived.Test.YtachednafdmmaaaDoorAInd
namespace Go.Proofs.YtachednafdmmaaaDoor.AI
open Go Go.RowKit
set_option linter.unusedVariables false

variable {P : Program}

theorem tabs_callsV {l : Tabs} {reg : CallA → Array Oper → St → Option St} (hreg : RegOK P (glT l) reg) {call : CallA} (hcall : CallOK P (glT l) call) {fuel : Nat} {g : FuncId} {fn : Func} {c : Code} {ar : List Value} {v : Value}
    (hfn : P.funcs[g]? = some fn) (hb : fn.body = some c) (hname : (fn.name == "runtime.NumGoroutine") = false) (hrun : runV P (glT l) reg call fuel fn ar (hT l) = some v) (hp : ar.all plainV = true) (hv : plainV v = true) (w : World) (hw : ∀ x ∈ l, Holds w x) :
    Calls P g ⟨ar⟩ w fun e w' => e = .returned v ∧ Below w.heap.size w w' := by
  obtain ⟨h', hr⟩ := runV_some hrun
  have hbody : bodyOf fn = c := by unfold bodyOf; rw [hb]
  unfold runK at hr
  rw [hbody] at hr
  refine ((oneK_ok hreg hcall (toK_ok call) hfn hb hname hr).2 (muT l w) w ⟨ar⟩ (.tabs hw) (plainV_list hp)).mono ?_
  rintro e w' ⟨c', μ', rfl, g1, g2, g3⟩
  refine ⟨?_, g2.below fun i b hb => ?_⟩
  · rw [g3.plainV_eq hv]
  · obtain ⟨x, _, rfl⟩ := hT_get hb
    rfl

/-- The functions of a table, and beside it those that are run as they are (where nothing may be written). -/
def withA (P : Program) (gl : Nat → Option Nat) (k : Nat) (fs : Nat → Bool) (F : FuncId → List Value → Option Value) : CallA := orA (quietA P gl (regF P gl) k fs) (sumA F)
theorem withA_ok {gl : Nat → Option Nat} (hm : P.follows .mixedOrders = true) (k : Nat) (fs : Nat → Bool) {F : FuncId → List Value → Option Value} (hF : TabOK P F) : CallOK P gl (withA P gl k fs F) :=
  orA_ok (quietA_ok (regF_ok hm) k fs) (tab_ok hF)


/-- Calls are gone into, whatever they ask. -/
def inK {R : Type} (P : Program) (gl : Nat → Option Nat) (reg : CallA → Array Oper → St → Option St) : Nat → CK R
  | 0 => fun _ _ _ _ => none
  | n + 1 => fun g args h k => match P.funcs[g]? with
    | none => none
    | some fn => match fn.body with
      | none => none
      | some c => bif fn.name == "runtime.NumGoroutine" then none else
        codeK P gl reg (callA P gl reg n false) (inK P gl reg n) n c ⟨argsT 0 args .nil, args.length + (fn.ntmps - args.length), h, []⟩ fun x σ => match x with
          | .exit _ => none
          | _ => match runDs (callA P gl reg n true) σ.ds σ.h with
            | none => none
            | some hm => match resA P σ.T hm fn.results.toList with
              | some vs => k (tupA vs) hm
              | none => none

theorem inK_ok {R : Type} {gl : Nat → Option Nat} {reg : CallA → Array Oper → St → Option St} : ∀ n, CKok (R := R) (callA P gl reg n false) (inK P gl reg n) := by
  intro n
  induction n with
  | zero => intro g ar h k; rfl
  | succ n ih =>
    intro g ar h k
    simp only [inK, callA]
    cases P.funcs[g]? with
    | none => rfl
    | some fn =>
      dsimp only
      cases fn.body with
      | none => rfl
      | some c =>
        dsimp only
        cases fn.name == "runtime.NumGoroutine" with
        | true => rfl
        | false =>
          simp only [cond_false]
          rw [codeK_eq ih]
          cases codeA P gl reg (callA P gl reg n false) n c ⟨argsT 0 ar .nil, ar.length + (fn.ntmps - ar.length), h, []⟩ with
          | none => rfl
          | some y =>
            obtain ⟨x, σ⟩ := y
            dsimp only
            cases x with
            | exit id => rfl
            | normal =>
              simp only [Bool.false_and, cond_false]
              cases runDs (callA P gl reg n true) σ.ds σ.h with
              | none => rfl
              | some hm =>
                dsimp only
                cases resA P σ.T hm fn.results.toList <;> rfl
            | ret =>
              simp only [Bool.false_and, cond_false]
              cases runDs (callA P gl reg n true) σ.ds σ.h with
              | none => rfl
              | some hm =>
                dsimp only
                cases resA P σ.T hm fn.results.toList <;> rfl

/-- A function and all that it calls, from its arguments. -/
def runI (P : Program) (gl : Nat → Option Nat) (reg : CallA → Array Oper → St → Option St) (n : Nat) (fn : Func) (ar : List Value) (h : AH) : Option Value :=
  codeK P gl reg (callA P gl reg n false) (inK P gl reg n) n (bodyOf fn) ⟨argsT 0 ar .nil, ar.length + (fn.ntmps - ar.length), h, []⟩ (finV P fn)

theorem runI_calls {reg : CallA → Array Oper → St → Option St} (hreg : RegOK P gl0 reg) {n : Nat} {g : FuncId} {fn : Func} {c : Code} {ar : List Value} {v : Value}
    (hfn : P.funcs[g]? = some fn) (hb : fn.body = some c) (hname : (fn.name == "runtime.NumGoroutine") = false) (hrun : runI P gl0 reg n fn ar h0 = some v) (hp : ar.all plainV = true) (hv : plainV v = true) (w : World) :
    Calls P g ⟨ar⟩ w fun e w' => e = .returned v ∧ Below w.heap.size w w' := by
  refine plain_callsV (fuel := n) hreg (callA_ok hreg n).1 hfn hb hname ?_ hp hv w
  unfold runI at hrun
  rw [codeK_eq (inK_ok n)] at hrun
  unfold runV
  rw [codeK_eq (toK_ok _)]
  exact hrun

end Go.Proofs.YtachednafdmmaaaDoor.AI
