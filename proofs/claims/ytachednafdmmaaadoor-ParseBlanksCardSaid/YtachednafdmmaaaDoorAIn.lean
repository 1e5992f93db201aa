/- The abstract interpreter: calls are sound. -/
import Derived.Test.YtachednafdmmaaaDoorAIm
namespace Go.Proofs.YtachednafdmmaaaDoor.AI
open Go
set_option linter.unusedVariables false
set_option linter.unusedSimpArgs false

variable {P : Program} {gl : Nat → Option Nat} {μ : Mu} {n : Nat} {w : World} {reg : CallA → Array Oper → St → Option St}

theorem callFunc_enter {f : FuncId} {fn : Func} {c : Code} (hf : P.funcs[f]? = some fn) (hname : (fn.name == "runtime.NumGoroutine") = false) (hb : fn.body = some c) (args : Array Value) (w : World) :
    (callFunc f args).run P w = .ok (.enter f args) w := by
  have h1 : fn.name ≠ "runtime.NumGoroutine" := by simpa using hname
  simp [callFunc, hf, h1, hb]

theorem DRel.nilInv {n : Nat} {ds : List Deferred} (h : DRel μ n [] ds) : ds = [] := by
  cases h
  rfl

theorem leaves_ok {call : CallA} (hcall : CallDOK P gl call) {fn : Func} {tmps : Array Value} {R : Ending → World → Prop} {T : Tr Value} : ∀ (ds : List (FuncId × List Value)) (ds' : List Deferred) (μ : Mu) (h h' : AH) (w : World),
    DRel μ h.next ds ds' → runDs call ds h = some h' → TRel μ h.next T tmps → HRel gl μ h w →
    (∀ w' μ', TRel μ' h'.next T tmps → HRel gl μ' h' w' → Fr μ h w μ' h' w' → ∃ v, (results fn tmps).run P w' = .ok v w' ∧ R (.returned v) w') → Leaves P fn tmps R ds' .returning w := by
  intro ds
  induction ds with
  | nil =>
    intro ds' μ h h' w hd hr hT hh hfin
    cases hd
    cases hr
    exact hfin w μ hT hh (.refl _ _ _)
  | cons d ds ih =>
    intro ds' μ h h' w hd hr hT hh hfin
    cases hd with
    | cons g ar cap args _ ds1 h1 h2 =>
      simp only [runDs] at hr
      split at hr
      · rename_i v hm hc
        obtain ⟨c1, c2⟩ := hcall g ar h v hm hc
        refine ⟨by simp, .func g, cap, g, args ++ cap, rfl, by simp only [invoke, c1], ?_⟩
        refine (c2 μ w (args ++ cap) .returning hh (by rw [Array.toList_append]; exact h1)).mono ?_
        rintro e u' w' ⟨rfl, c, μ1, rfl, g1, g2, g3⟩
        show Leaves P fn tmps R ds1 (settle .returning) w'
        exact ih ds1 μ1 hm h' w' (h2.mono g2.ext g2.next) hr (hT.mono g2.ext g2.next) g1 fun w'' μ'' hT' hh' hf' => hfin w'' μ'' hT' hh' (g2.trans hf')
      · cases hr

theorem callA_ok (hreg : RegOK P gl reg) : ∀ n, CallOK P gl (callA P gl reg n false) ∧ CallDOK P gl (callA P gl reg n true) := by
  intro n
  induction n with
  | zero => exact ⟨(fun g ar h v h' hc => by cases hc), (fun g ar h v h' hc => by cases hc)⟩
  | succ n ih =>
    have open_ : ∀ {d : Bool} {g : FuncId} {ar : List Value} {h h' : AH} {v : Value}, callA P gl reg (n + 1) d g ar h = some (v, h') →
        ∃ fn c x σ hm vs, P.funcs[g]? = some fn ∧ fn.body = some c ∧ (fn.name == "runtime.NumGoroutine") = false ∧
          codeA P gl reg (callA P gl reg n false) n c ⟨argsT 0 ar .nil, ar.length + (fn.ntmps - ar.length), h, []⟩ = some (x, σ) ∧ (∀ id, x ≠ .exit id) ∧ (d = true → σ.ds = []) ∧
          runDs (callA P gl reg n true) σ.ds σ.h = some hm ∧ resA P σ.T hm fn.results.toList = some vs ∧ v = tupA vs ∧ h' = hm := by
      intro d g ar h h' v hc
      simp only [callA] at hc
      split at hc
      · cases hc
      · rename_i fn hfn
        split at hc
        · cases hc
        · rename_i c hb
          cases hname : (fn.name == "runtime.NumGoroutine") with
          | true => rw [hname] at hc; cases hc
          | false =>
            rw [hname] at hc
            simp only [cond_false] at hc
            split at hc
            · rename_i x σ hcode
              split at hc
              · cases hc
              · rename_i hx
                cases hd : (d && !σ.ds.isEmpty) with
                | true => rw [hd] at hc; cases hc
                | false =>
                  rw [hd] at hc
                  simp only [cond_false] at hc
                  split at hc
                  · cases hc
                  · rename_i hm hrun
                    split at hc
                    · rename_i vs hres
                      cases hc
                      refine ⟨fn, c, x, σ, _, vs, hfn, hb, hname, hcode, fun id e => hx id e, fun e => ?_, hrun, hres, rfl, rfl⟩
                      subst e
                      cases hds : σ.ds with
                      | nil => rfl
                      | cons a b => rw [hds] at hd; cases hd
                    · cases hc
            · cases hc
    refine ⟨fun g ar h v h' hc => ?_, fun g ar h v h' hc => ?_⟩
    · obtain ⟨fn, c, x, σ, hm, vs, hfn, hb, hname, hcode, hx, _, hrun, hres, rfl, rfl⟩ := open_ hc
      refine ⟨fun args w => callFunc_enter hfn hname hb args w, fun μ w args hh hr => ?_⟩
      refine calls_of_wp_defers hfn hb ?_
      have hs := enter_rel hh hr fn.ntmps
      refine wp_mono (codeA_ok hreg ih.1 n c _ x σ hcode μ _ w hs) ?_
      rintro e a1 w1 ⟨rfl, μ1, hs1, hf1⟩
      have key : Leaves P fn a1.tmps (fun e w' => ∃ c μ', e = .returned c ∧ HRel gl μ' h' w' ∧ Fr μ h w μ' h' w' ∧ VRel μ' h'.next (tupA vs) c) a1.defers .returning w1 := by
        refine leaves_ok ih.2 σ.ds a1.defers μ1 σ.h h' w1 hs1.ds hrun hs1.tmps hs1.heap fun w' μ' hT' hh' hf' => ?_
        obtain ⟨c, e1, e2⟩ := results_run (P := P) hT' hh' hres
        exact ⟨c, e1, c, μ', rfl, hh', hf1.trans hf', e2⟩
      cases x with
      | normal => exact key
      | ret => exact key
      | exit id => exact absurd rfl (hx id)
    · obtain ⟨fn, c, x, σ, hm, vs, hfn, hb, hname, hcode, hx, hds, hrun, hres, rfl, rfl⟩ := open_ hc
      refine ⟨fun args w => callFunc_enter hfn hname hb args w, fun μ w args u hh hr => ?_⟩
      refine callsD_of_wp hfn hb (R := fun e w' => ∃ c μ', e = .returned c ∧ HRel gl μ' h' w' ∧ Fr μ h w μ' h' w' ∧ VRel μ' h'.next (tupA vs) c) ?_
      have hs := enter_rel hh hr fn.ntmps
      refine wp_mono (codeA_ok hreg ih.1 n c _ x σ hcode μ _ w hs) ?_
      rintro e a1 w1 ⟨rfl, μ1, hs1, hf1⟩
      have h0 := hds rfl
      have hd1 : a1.defers = [] := by
        have := hs1.ds
        rw [h0] at this
        exact this.nilInv
      rw [h0] at hrun
      cases hrun
      obtain ⟨c, e1, e2⟩ := results_run (P := P) hs1.tmps hs1.heap hres
      have key : a1.defers = [] ∧ ∃ v, (results fn a1.tmps).run P w1 = .ok v w1 ∧ ∃ c μ', Ending.returned v = .returned c ∧ HRel gl μ' σ.h w1 ∧ Fr μ h w μ' σ.h w1 ∧ VRel μ' σ.h.next (tupA vs) c :=
        ⟨hd1, c, e1, c, μ1, rfl, hs1.heap, hf1, e2⟩
      cases x with
      | normal => exact key
      | ret => exact key
      | exit id => exact absurd rfl (hx id)

end Go.Proofs.YtachednafdmmaaaDoor.AI
