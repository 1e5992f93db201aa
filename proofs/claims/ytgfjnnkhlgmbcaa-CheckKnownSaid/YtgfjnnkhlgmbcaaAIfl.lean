/- The abstract interpreter, fast runs: laws. -/
import Derived.Test.YtgfjnnkhlgmbcaaAIfk
import Derived.Test.YtgfjnnkhlgmbcaaAIx
namespace Go.Proofs.Ytgfjnnkhlgmbcaa.AI
open Go Go.RowKit
set_option linter.unusedVariables false
set_option linter.unusedSimpArgs false

variable {P : Program} {gl : Nat → Option Nat} {F : CallA}

theorem callN_ok (hm : P.follows .mixedOrders = true) (hF : CallOK P gl F) : ∀ n, CallOK P gl (callN P gl F n false) ∧ CallDOK P gl (callN P gl F n true) := by
  have hreg : RegOK P gl (regX P gl) := regX_ok hm
  intro n
  induction n with
  | zero => exact ⟨(fun g ar h v h' hc => by cases hc), (fun g ar h v h' hc => by cases hc)⟩
  | succ n ih =>
    have open_ : ∀ {d : Bool} {g : FuncId} {ar : List Value} {h h' : AH} {v : Value}, callN P gl F (n + 1) d g ar h = some (v, h') →
        (d = false ∧ F g ar h = some (v, h')) ∨ ∃ fn c x σ hm vs, P.funcs[g]? = some fn ∧ fn.body = some c ∧ (fn.name == "runtime.NumGoroutine") = false ∧
          codeA P gl (regX P gl) (callN P gl F n false) n c ⟨argsT 0 ar .nil, ar.length + (fn.ntmps - ar.length), h, []⟩ = some (x, σ) ∧ (∀ id, x ≠ .exit id) ∧ (d = true → σ.ds = []) ∧
          runDs (callN P gl F n true) σ.ds σ.h = some hm ∧ resA P σ.T hm fn.results.toList = some vs ∧ v = tupA vs ∧ h' = hm := by
      intro d g ar h h' v hc
      simp only [callN] at hc
      split at hc
      · rename_i v1 hv
        cases d with
        | true => cases hv
        | false => cases hc; exact .inl ⟨rfl, hv⟩
      · refine .inr ?_
        split at hc
        · cases hc
        · rename_i fn hfn
          split at hc
          · cases hc
          · rename_i c hb
            cases hname : (fn.name == "runtime.NumGoroutine") with
            | true => rw [hname] at hc; cases hc
            | false =>
              rw [hname] at hc
              simp only [cond_false] at hc
              split at hc
              · rename_i x σ hcode
                split at hc
                · cases hc
                · rename_i hx
                  cases hd : (d && !σ.ds.isEmpty) with
                  | true => rw [hd] at hc; cases hc
                  | false =>
                    rw [hd] at hc
                    simp only [cond_false] at hc
                    split at hc
                    · cases hc
                    · rename_i hm hrun
                      split at hc
                      · rename_i vs hres
                        cases hc
                        refine ⟨fn, c, x, σ, _, vs, hfn, hb, hname, hcode, fun id e => hx id e, fun e => ?_, hrun, hres, rfl, rfl⟩
                        subst e
                        cases hds : σ.ds with
                        | nil => rfl
                        | cons a b => rw [hds] at hd; cases hd
                      · cases hc
              · cases hc
    refine ⟨fun g ar h v h' hc => ?_, fun g ar h v h' hc => ?_⟩
    · rcases open_ hc with ⟨_, hv⟩ | ⟨fn, c, x, σ, hm, vs, hfn, hb, hname, hcode, hx, _, hrun, hres, rfl, rfl⟩
      · exact hF g ar h v h' hv
      refine ⟨fun args w => callFunc_enter hfn hname hb args w, fun μ w args hh hr => ?_⟩
      refine calls_of_wp_defers hfn hb ?_
      have hs := enter_rel hh hr fn.ntmps
      refine wp_mono (codeA_ok hreg ih.1 n c _ x σ hcode μ _ w hs) ?_
      rintro e a1 w1 ⟨rfl, μ1, hs1, hf1⟩
      have key : Leaves P fn a1.tmps (fun e w' => ∃ c μ', e = .returned c ∧ HRel gl μ' h' w' ∧ Fr μ h w μ' h' w' ∧ VRel μ' h'.next (tupA vs) c) a1.defers .returning w1 := by
        refine leaves_ok ih.2 σ.ds a1.defers μ1 σ.h h' w1 hs1.ds hrun hs1.tmps hs1.heap fun w' μ' hT' hh' hf' => ?_
        obtain ⟨c, e1, e2⟩ := results_run (P := P) hT' hh' hres
        exact ⟨c, e1, c, μ', rfl, hh', hf1.trans hf', e2⟩
      cases x with
      | normal => exact key
      | ret => exact key
      | exit id => exact absurd rfl (hx id)
    · rcases open_ hc with ⟨hd, _⟩ | ⟨fn, c, x, σ, hm, vs, hfn, hb, hname, hcode, hx, hds, hrun, hres, rfl, rfl⟩
      · cases hd
      refine ⟨fun args w => callFunc_enter hfn hname hb args w, fun μ w args u hh hr => ?_⟩
      refine callsD_of_wp hfn hb (R := fun e w' => ∃ c μ', e = .returned c ∧ HRel gl μ' h' w' ∧ Fr μ h w μ' h' w' ∧ VRel μ' h'.next (tupA vs) c) ?_
      have hs := enter_rel hh hr fn.ntmps
      refine wp_mono (codeA_ok hreg ih.1 n c _ x σ hcode μ _ w hs) ?_
      rintro e a1 w1 ⟨rfl, μ1, hs1, hf1⟩
      have h0 := hds rfl
      have hd1 : a1.defers = [] := by
        have := hs1.ds
        rw [h0] at this
        exact this.nilInv
      rw [h0] at hrun
      cases hrun
      obtain ⟨c, e1, e2⟩ := results_run (P := P) hs1.tmps hs1.heap hres
      have key : a1.defers = [] ∧ ∃ v, (results fn a1.tmps).run P w1 = .ok v w1 ∧ ∃ c μ', Ending.returned v = .returned c ∧ HRel gl μ' σ.h w1 ∧ Fr μ h w μ' σ.h w1 ∧ VRel μ' σ.h.next (tupA vs) c :=
        ⟨hd1, c, e1, c, μ1, rfl, hs1.heap, hf1, e2⟩
      cases x with
      | normal => exact key
      | ret => exact key
      | exit id => exact absurd rfl (hx id)

theorem natTab_get {F : FuncId → List Value → Option Value} {t : Tr FFn} : ∀ {l : List Nat} {g : Nat}, (g ∈ l → (natTab F l t).get g = some (.nat (F g))) ∧ (g ∉ l → (natTab F l t).get g = t.get g) := by
  intro l
  induction l with
  | nil => intro g; exact ⟨fun h => by simp at h, fun _ => rfl⟩
  | cons i l ih =>
    intro g
    have e : (natTab F (i :: l) t).get g = if g = i then some (.nat (F i)) else (natTab F l t).get g := Tr.get_set _ _ _ _
    rw [e]
    by_cases hg : g = i
    · rw [if_pos hg, hg]
      exact ⟨fun _ => rfl, fun h => absurd (by simp) h⟩
    · rw [if_neg hg]
      refine ⟨fun h => ih.1 ?_, fun h => ih.2 fun h2 => h (by simp [h2])⟩
      rcases List.mem_cons.1 h with h | h
      · exact absurd h hg
      · exact h

/-- What a fast run tells of a call, where functions of the heap are told too. -/
theorem fast_callsT (hm : P.follows .mixedOrders = true) {T : CallA} (hT : CallOK P gl0 T) {tab : Tr FFn} (ht : TabIs P gl0 T tab) (hTn : ∀ g fn, tab.get g = some fn → compFn P gl0 g = some fn → ∀ args h, T g args h = none) {n : Nat} {g : FuncId} {args : List Value} {v : Value}
    (hr : callF tab n false g args ⟨eH, 0⟩ (fun v _ => some v) = some v) (hp : args.all plain1 = true) (hv : plainV v = true) (w : World) :
    Calls P g ⟨args⟩ w fun e w' => e = .returned v ∧ Below w.heap.size w w' := by
  obtain ⟨v', h', f', e1, _, e2⟩ := call_sim ht hTn n false g args _ _ _ _ eH_sim hr
  cases e2
  refine ((callN_ok hm hT n).1 g args h0 _ h' e1 |>.2 (mu0 w) w ⟨args⟩ (.none w) (plain_list hp)).mono ?_
  rintro e w' ⟨c, μ', rfl, g1, g2, g3⟩
  exact ⟨by rw [g3.plainV_eq hv], g2.below fun i b h => (by simp [h0, AH.get, Tr.get_nil] at h)⟩

/-- What a fast run tells of a call. -/
theorem fast_calls {F : FuncId → List Value → Option Value} (hm : P.follows .mixedOrders = true) (hF : TabOK P F) {nats l : List Nat} (hFn : ∀ g, g ∉ nats → ∀ args, F g args = none) {n : Nat} {g : FuncId} {args : List Value} {v : Value}
    (hr : callF (natTab F nats (mkTab P gl0 l)) n false g args ⟨eH, 0⟩ (fun v _ => some v) = some v) (hp : args.all plain1 = true) (hv : plainV v = true) (w : World) :
    Calls P g ⟨args⟩ w fun e w' => e = .returned v ∧ Below w.heap.size w w' := by
  have ht : TabIs P gl0 (sumA F) (natTab F nats (mkTab P gl0 l)) := natTab_is (fun g args h v hv => by unfold sumA; rw [hv]) (mkTab_is l) nats
  refine fast_callsT hm (tab_ok hF) ht (fun g fn h1 h2 args h => ?_) hr hp hv w
  unfold sumA
  rw [hFn g (fun hg => ?_) args]
  rw [natTab_get.1 hg] at h1
  cases h1
  obtain ⟨_, _, _, _, _, _, _, _, _, e⟩ := compFn_mk h2
  cases e

end Go.Proofs.Ytgfjnnkhlgmbcaa.AI
