/- The abstract interpreter: a function's own code in a world that holds tables. -/
import Derived.Test.YtachednafdmmaaaDoorAIx
import Derived.Test.YtachednafdmmaaaDoorAIy
import Derived.Test.YtachednafdmmaaaDoorAInd
namespace Go.Proofs.YtachednafdmmaaaDoor.AI
open Go Go.RowKit
set_option linter.unusedVariables false

variable {P : Program}

/-- Calls are gone into, whatever they ask. -/
def inK {R : Type} (P : Program) (gl : Nat → Option Nat) (reg : CallA → Array Oper → St → Option St) : Nat → CK R
  | 0 => fun _ _ _ _ => none
  | n + 1 => fun g args h k => match P.funcs[g]? with
    | none => none
    | some fn => match fn.body with
      | none => none
      | some c => bif fn.name == "runtime.NumGoroutine" then none else
        codeK P gl reg (callA P gl reg n false) (inK P gl reg n) n c ⟨argsT 0 args .nil, args.length + (fn.ntmps - args.length), h, []⟩ fun x σ => match x with
          | .exit _ => none
          | _ => match runDs (callA P gl reg n true) σ.ds σ.h with
            | none => none
            | some hm => match resA P σ.T hm fn.results.toList with
              | some vs => k (tupA vs) hm
              | none => none

theorem inK_ok {R : Type} {gl : Nat → Option Nat} {reg : CallA → Array Oper → St → Option St} : ∀ n, CKok (R := R) (callA P gl reg n false) (inK P gl reg n) := by
  intro n
  induction n with
  | zero => intro g ar h k; rfl
  | succ n ih =>
    intro g ar h k
    simp only [inK, callA]
    cases P.funcs[g]? with
    | none => rfl
    | some fn =>
      dsimp only
      cases fn.body with
      | none => rfl
      | some c =>
        dsimp only
        cases fn.name == "runtime.NumGoroutine" with
        | true => rfl
        | false =>
          simp only [cond_false]
          rw [codeK_eq ih]
          cases codeA P gl reg (callA P gl reg n false) n c ⟨argsT 0 ar .nil, ar.length + (fn.ntmps - ar.length), h, []⟩ with
          | none => rfl
          | some y =>
            obtain ⟨x, σ⟩ := y
            dsimp only
            cases x with
            | exit id => rfl
            | normal =>
              simp only [Bool.false_and, cond_false]
              cases runDs (callA P gl reg n true) σ.ds σ.h with
              | none => rfl
              | some hm =>
                dsimp only
                cases resA P σ.T hm fn.results.toList <;> rfl
            | ret =>
              simp only [Bool.false_and, cond_false]
              cases runDs (callA P gl reg n true) σ.ds σ.h with
              | none => rfl
              | some hm =>
                dsimp only
                cases resA P σ.T hm fn.results.toList <;> rfl

end Go.Proofs.YtachednafdmmaaaDoor.AI
