/- The abstract interpreter: loops by what is known of them; states that know less, or name their blocks otherwise. -/
import Derived.Test.YtachednafdmmaaaDoorAIt
namespace Go.Proofs.YtachednafdmmaaaDoor.AI
open Go Go.RowKit
set_option linter.unusedVariables false
set_option linter.unusedSimpArgs false

/-- What is known of a loop (its body): from a state, how it is left, and the state then. -/
abbrev LoopA := Code → St → Option (XA × St)

/-- The bodies of a code's loops (the outer ones). -/
def loopsOf : Code → List Code
  | .seq a b => loopsOf a ++ loopsOf b
  | .cond _ a b => loopsOf a ++ loopsOf b
  | .block _ c => loopsOf c
  | .loop c => [c]
  | _ => []

def codeB (P : Program) (gl : Nat → Option Nat) (reg : CallA → Array Oper → St → Option St) (call : CallA) (LO : LoopA) : Code → St → Option (XA × St)
  | .skip, σ => some (.normal, σ)
  | .label _, σ => some (.normal, σ)
  | .region _ ops false, σ => match opsA P gl call ops ops.toList σ with
    | some σ' => some (.normal, σ')
    | none => none
  | .region _ ops true, σ => match reg call ops σ with
    | some σ' => some (.normal, σ')
    | none => none
  | .seq a b, σ => match codeB P gl reg call LO a σ with
    | some (.normal, σ') => codeB P gl reg call LO b σ'
    | r => r
  | .cond c t e, σ => match evA gl σ.T c with
    | some (.bool true) => codeB P gl reg call LO t σ
    | some (.bool false) => codeB P gl reg call LO e σ
    | _ => none
  | .block id c, σ => match codeB P gl reg call LO c σ with
    | some (.exit id', σ') => bif Nat.beq id' id then some (.normal, σ') else some (.exit id', σ')
    | r => r
  | .loop c, σ => LO c σ
  | .exit id, σ => some (.exit id, σ)
  | .ret, σ => some (.ret, σ)
  | _, _ => none

variable {P : Program} {gl : Nat → Option Nat} {reg : CallA → Array Oper → St → Option St} {call : CallA}

/-- The post of a piece of code, told from where the function began. -/
def PostE (gl : Nat → Option Nat) (μE : Mu) (hE : AH) (wE : World) (x : XA) (σ' : St) : Exit → Act → World → Prop :=
  fun e a w => e = x.to ∧ ∃ μ', SRel gl μ' σ' a w ∧ Fr μE hE wE μ' σ'.h w

/-- A loop goes so. -/
def LoopTri (P : Program) (gl : Nat → Option Nat) (hE : AH) (c : Code) (σ : St) (x : XA) (σ' : St) : Prop :=
  ∀ (μE : Mu) (wE : World) (μ : Mu) (a : Act) (w : World), HRel gl μE hE wE → SRel gl μ σ a w → Fr μE hE wE μ σ.h w → (Code.loop c).wp P (PostE gl μE hE wE x σ') a w

def LoopsOK (P : Program) (gl : Nat → Option Nat) (hE : AH) (LO : LoopA) (l : List Code) : Prop :=
  ∀ c ∈ l, ∀ (σ : St) (x : XA) (σ' : St), LO c σ = some (x, σ') → LoopTri P gl hE c σ x σ'

theorem codeB_ok (hreg : RegOK P gl reg) (hcall : CallOK P gl call) {hE : AH} {LO : LoopA} : ∀ (c : Code), LoopsOK P gl hE LO (loopsOf c) → ∀ (σ : St) (x : XA) (σ' : St), codeB P gl reg call LO c σ = some (x, σ') →
    ∀ (μE : Mu) (wE : World) (μ : Mu) (a : Act) (w : World), HRel gl μE hE wE → SRel gl μ σ a w → Fr μE hE wE μ σ.h w → c.wp P (PostE gl μE hE wE x σ') a w := by
  intro c
  induction c with
  | skip => intro _ σ x σ' hc μE wE μ a w hE0 h f; cases hc; exact wp_skip ⟨rfl, μ, h, f⟩
  | label l => intro _ σ x σ' hc μE wE μ a w hE0 h f; cases hc; exact wp_label ⟨rfl, μ, h, f⟩
  | region id ops draw =>
    intro _ σ x σ' hc μE wE μ a w hE0 h f
    have key : codeA P gl reg call 0 (.region id ops draw) σ = some (x, σ') → (Code.region id ops draw).wp P (PostE gl μE hE wE x σ') a w := by
      intro hc'
      refine wp_mono (codeA_ok hreg hcall 0 _ σ x σ' hc' μ a w h) ?_
      rintro e a1 w1 ⟨rfl, μ1, hs1, hf1⟩
      exact ⟨rfl, μ1, hs1, f.trans hf1⟩
    cases draw with
    | false => exact key hc
    | true => exact key hc
  | seq p q ihp ihq =>
    intro hl σ x σ' hc μE wE μ a w hE0 h f
    have hp : LoopsOK P gl hE LO (loopsOf p) := fun c hc => hl c (List.mem_append_left _ hc)
    have hq : LoopsOK P gl hE LO (loopsOf q) := fun c hc => hl c (List.mem_append_right _ hc)
    simp only [codeB] at hc
    refine wp_seq ?_
    split at hc
    · rename_i σ1 h1
      refine wp_mono (ihp hp σ .normal σ1 h1 μE wE μ a w hE0 h f) ?_
      rintro e a1 w1 ⟨rfl, μ1, hs1, hf1⟩
      exact ihq hq _ x σ' hc μE wE μ1 a1 w1 hE0 hs1 hf1
    · rename_i hne
      refine wp_mono (ihp hp σ x σ' hc μE wE μ a w hE0 h f) ?_
      rintro e a1 w1 ⟨rfl, μ1, hs1, hf1⟩
      cases x with
      | normal => exact absurd hc (hne σ')
      | exit id => exact ⟨rfl, μ1, hs1, hf1⟩
      | ret => exact ⟨rfl, μ1, hs1, hf1⟩
  | cond c p q ihp ihq =>
    intro hl σ x σ' hc μE wE μ a w hE0 h f
    have hp : LoopsOK P gl hE LO (loopsOf p) := fun c hc => hl c (List.mem_append_left _ hc)
    have hq : LoopsOK P gl hE LO (loopsOf q) := fun c hc => hl c (List.mem_append_right _ hc)
    simp only [codeB] at hc
    split at hc
    · rename_i hb
      exact wp_cond_true (evA_rel h c _ hb).bool (ihp hp σ x σ' hc μE wE μ a w hE0 h f)
    · rename_i hb
      exact wp_cond_false (evA_rel h c _ hb).bool (ihq hq σ x σ' hc μE wE μ a w hE0 h f)
    · cases hc
  | block id p ih =>
    intro hl σ x σ' hc μE wE μ a w hE0 h f
    simp only [codeB] at hc
    refine wp_block ?_
    split at hc
    · rename_i id' σ1 h1
      refine wp_mono (ih hl σ _ _ h1 μE wE μ a w hE0 h f) ?_
      rintro e a1 w1 ⟨rfl, μ1, hs1, hf1⟩
      show (if id' = id then _ else _)
      cases hb : Nat.beq id' id with
      | true =>
        rw [hb] at hc
        cases hc
        rw [if_pos (Nat.eq_of_beq_eq_true hb)]
        exact ⟨rfl, μ1, hs1, hf1⟩
      | false =>
        rw [hb] at hc
        cases hc
        rw [if_neg (fun e => by subst e; rw [Nat.beq_refl] at hb; cases hb)]
        exact ⟨rfl, μ1, hs1, hf1⟩
    · rename_i hne
      refine wp_mono (ih hl σ x σ' hc μE wE μ a w hE0 h f) ?_
      rintro e a1 w1 ⟨rfl, μ1, hs1, hf1⟩
      cases x with
      | normal => exact ⟨rfl, μ1, hs1, hf1⟩
      | exit id' => exact absurd hc (hne id' σ')
      | ret => exact ⟨rfl, μ1, hs1, hf1⟩
  | loop p ih =>
    intro hl σ x σ' hc μE wE μ a w hE0 h f
    exact hl p (by simp [loopsOf]) σ x σ' hc μE wE μ a w hE0 h f
  | exit id => intro _ σ x σ' hc μE wE μ a w hE0 h f; cases hc; exact wp_exit ⟨rfl, μ, h, f⟩
  | ret => intro _ σ x σ' hc μE wE μ a w hE0 h f; cases hc; exact wp_ret ⟨rfl, μ, h, f⟩
  | rangeFunc f p1 p2 p3 => intro _ σ x σ' hc; cases hc
  | scope p => intro _ σ x σ' hc; cases hc
  | goto l => intro _ σ x σ' hc; cases hc
  | refuse why => intro _ σ x σ' hc; cases hc

/-- A loop, with what comes next handed on. -/
abbrev LoopK (R : Type) := Code → St → (XA → St → Option R) → Option R
def LKok {R : Type} (LO : LoopA) (LK : LoopK R) : Prop := ∀ (c : Code) (σ : St) (k : XA → St → Option R), LK c σ k = match LO c σ with
  | some (x, σ') => k x σ'
  | none => none
def toLK {R : Type} (LO : LoopA) : LoopK R := fun c σ k => match LO c σ with
  | some (x, σ') => k x σ'
  | none => none
theorem toLK_ok {R : Type} (LO : LoopA) : LKok (R := R) LO (toLK LO) := fun c σ k => rfl

/-- The same, with what comes next handed on. -/
def codeBK {R : Type} (P : Program) (gl : Nat → Option Nat) (reg : CallA → Array Oper → St → Option St) (call : CallA) (callK : CK R) (LK : LoopK R) : Code → St → (XA → St → Option R) → Option R
  | .skip, σ, k => k .normal σ
  | .label _, σ, k => k .normal σ
  | .region _ ops false, σ, k => opsK P gl call callK ops ops.toList σ fun σ' => k .normal σ'
  | .region _ ops true, σ, k => match reg call ops σ with
    | some σ' => k .normal σ'
    | none => none
  | .seq a b, σ, k => codeBK P gl reg call callK LK a σ fun x σ' => match x with
    | .normal => codeBK P gl reg call callK LK b σ' k
    | x => k x σ'
  | .cond c t e, σ, k => match evA gl σ.T c with
    | some (.bool true) => codeBK P gl reg call callK LK t σ k
    | some (.bool false) => codeBK P gl reg call callK LK e σ k
    | _ => none
  | .block id c, σ, k => codeBK P gl reg call callK LK c σ fun x σ' => match x with
    | .exit id' => bif Nat.beq id' id then k .normal σ' else k (.exit id') σ'
    | x => k x σ'
  | .loop c, σ, k => LK c σ k
  | .exit id, σ, k => k (.exit id) σ
  | .ret, σ, k => k .ret σ
  | _, _, _ => none

theorem codeBK_eq {R : Type} {callK : CK R} (hc : CKok call callK) {LO : LoopA} {LK : LoopK R} (hL : LKok LO LK) : ∀ (c : Code) (σ : St) (k : XA → St → Option R), codeBK P gl reg call callK LK c σ k = match codeB P gl reg call LO c σ with
    | some (x, σ') => k x σ'
    | none => none := by
  intro c
  induction c with
  | skip => intro σ k; rfl
  | label => intro σ k; rfl
  | exit => intro σ k; rfl
  | ret => intro σ k; rfl
  | region id ops drawn =>
    intro σ k
    cases drawn with
    | false =>
      simp only [codeBK, codeB]
      rw [opsK_eq hc]
      cases opsA P gl call ops ops.toList σ <;> rfl
    | true =>
      simp only [codeBK, codeB]
      cases reg call ops σ <;> rfl
  | seq a b iha ihb =>
    intro σ k
    simp only [codeBK, codeB]
    rw [iha]
    cases codeB P gl reg call LO a σ with
    | none => rfl
    | some y =>
      obtain ⟨x, σ'⟩ := y
      cases x with
      | normal => exact ihb σ' k
      | exit id => rfl
      | ret => rfl
  | cond c t e iht ihe =>
    intro σ k
    simp only [codeBK, codeB]
    generalize evA gl σ.T c = ev
    cases ev with
    | none => rfl
    | some v =>
      cases v
      case bool b =>
        cases b with
        | true => exact iht σ k
        | false => exact ihe σ k
      all_goals rfl
  | block id c ih =>
    intro σ k
    simp only [codeBK, codeB]
    rw [ih]
    cases codeB P gl reg call LO c σ with
    | none => rfl
    | some y =>
      obtain ⟨x, σ'⟩ := y
      cases x with
      | normal => rfl
      | exit id' =>
        dsimp only
        cases Nat.beq id' id <;> rfl
      | ret => rfl
  | loop c ih => intro σ k; exact hL c σ k
  | _ => intros; rfl

/-- A function's own code, over what is known of the functions that it calls and of its loops. -/
theorem oneB_ok (hreg : RegOK P gl reg) (hcall : CallOK P gl call) {callK : CK (Value × AH)} (hc : CKok call callK) {LO : LoopA} {LK : LoopK (Value × AH)} (hL : LKok LO LK) {g : FuncId} {fn : Func} {c : Code} {ar : List Value} {h h' : AH} {v : Value} (hLO : LoopsOK P gl h LO (loopsOf c))
    (hfn : P.funcs[g]? = some fn) (hb : fn.body = some c) (hname : (fn.name == "runtime.NumGoroutine") = false)
    (hrun : codeBK P gl reg call callK LK c ⟨argsT 0 ar .nil, ar.length + (fn.ntmps - ar.length), h, []⟩ (finK P fn) = some (v, h')) :
    (∀ (args : Array Value) (w : World), (callFunc g args).run P w = .ok (.enter g args) w) ∧ ∀ (μ : Mu) (w : World) (args : Array Value), HRel gl μ h w → LRel μ h.next ar args.toList →
      Calls P g args w fun e w' => ∃ c μ', e = .returned c ∧ HRel gl μ' h' w' ∧ Fr μ h w μ' h' w' ∧ VRel μ' h'.next v c := by
  rw [codeBK_eq hc hL] at hrun
  split at hrun
  · rename_i x σ hcode
    have hfin : (∀ id, x ≠ .exit id) ∧ σ.ds = [] ∧ ∃ vs, resA P σ.T σ.h fn.results.toList = some vs ∧ v = tupA vs ∧ h' = σ.h := by
      unfold finK at hrun
      split at hrun
      · cases hrun
      · rename_i hx
        split at hrun
        · rename_i hds
          split at hrun
          · rename_i vs hvs
            cases hrun
            exact ⟨fun id e => hx id e, hds, vs, hvs, rfl, rfl⟩
          · cases hrun
        · cases hrun
    obtain ⟨hx, hds, vs, hres, rfl, rfl⟩ := hfin
    refine ⟨fun args w => callFunc_enter hfn hname hb args w, fun μ w args hh hr => ?_⟩
    refine calls_of_wp_defers hfn hb ?_
    have hs := enter_rel hh hr fn.ntmps
    refine wp_mono (codeB_ok hreg hcall c hLO _ x σ hcode μ w μ _ w hh hs (.refl _ _ _)) ?_
    rintro e a1 w1 ⟨rfl, μ1, hs1, hf1⟩
    have key : Leaves P fn a1.tmps (fun e w' => ∃ c μ', e = .returned c ∧ HRel gl μ' σ.h w' ∧ Fr μ h w μ' σ.h w' ∧ VRel μ' σ.h.next (tupA vs) c) a1.defers .returning w1 := by
      have hr0 : runDs (fun _ _ _ => none) σ.ds σ.h = some σ.h := by rw [hds]; rfl
      refine leaves_ok (call := fun _ _ _ => none) (fun g ar h v h' hc => by cases hc) σ.ds a1.defers μ1 σ.h σ.h w1 hs1.ds hr0 hs1.tmps hs1.heap fun w' μ' hT' hh' hf' => ?_
      obtain ⟨c, e1, e2⟩ := results_run (P := P) hT' hh' hres
      exact ⟨c, e1, c, μ', rfl, hh', hf1.trans hf', e2⟩
    cases x with
    | normal => exact key
    | ret => exact key
    | exit id => exact absurd rfl (hx id)
  · cases hrun

end Go.Proofs.YtachednafdmmaaaDoor.AI
