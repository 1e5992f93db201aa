/- The abstract interpreter, with what comes next handed on: so that the kernel can pass tests on numbers that are not known. -/
import Derived.Test.YtfiabhfeoljgiaaDoorAIv
namespace Go.Proofs.YtfiabhfeoljgiaaDoor.AI
open Go
set_option linter.unusedVariables false
set_option linter.unusedSimpArgs false

variable {P : Program} {gl : Nat → Option Nat} {R : Type}

/-- A truth value is told before one goes on. -/
def splitV (v : Value) (k : Value → Option R) : Option R :=
  match v with
  | .bool b => match b with
    | true => k (.bool true)
    | false => k (.bool false)
  | v => k v

theorem splitV_eq (v : Value) (k : Value → Option R) : splitV v k = k v := by
  cases v
  case bool b => cases b <;> rfl
  all_goals rfl

/-- Two numbers. -/
def intK (op : BinOp) (kd kd' : IntKind) (a b : Int) (k : Value → Option R) : Option R :=
  match op with
  | .quo => bif kd == kd' then (match decide (b = 0) with
    | true => none
    | false => k (.int kd (kd.wrap (a.tdiv b)))) else none
  | .rem => bif kd == kd' then (match decide (b = 0) with
    | true => none
    | false => k (.int kd (a.tmod b))) else none
  | .shl => match decide (b < 0) with
    | true => none
    | false => k (.int kd (kd.wrap (a * 2 ^ (min b.toNat kd.bits))))
  | .shr => match decide (b < 0) with
    | true => none
    | false => k (.int kd (a.fdiv (2 ^ (min b.toNat kd.bits))))
  | op => bif kd == kd' then (match intA op kd a b with
    | some v => k v
    | none => none) else none

theorem intK_eq (t : TypeId) (cst : Bool) (op : BinOp) (kd kd' : IntKind) (a b : Int) (k : Value → Option R) : intK op kd kd' a b k = match binA P op t cst (.int kd a) (.int kd' b) with
    | some v => k v
    | none => none := by
  have hne : kd ≠ kd' → (kd == kd') = false := fun h => by simpa using h
  cases op
  case quo =>
    simp only [intK, binA]
    by_cases h : kd = kd'
    · subst h
      by_cases hb : b = 0
      · simp only [intA, Op.intDiv, hb, beq_self_eq_true, cond_true, decide_true, if_true, pureOf, runtimePanic]; rfl
      · simp [intA, Op.intDiv, hb, pureOf]; rfl
    · simp [h, hne h]
  case rem =>
    simp only [intK, binA]
    by_cases h : kd = kd'
    · subst h
      by_cases hb : b = 0
      · simp only [intA, Op.intDiv, hb, beq_self_eq_true, cond_true, decide_true, if_true, pureOf, runtimePanic]; rfl
      · simp [intA, Op.intDiv, hb, pureOf]; rfl
    · simp [h, hne h]
  case shl =>
    simp only [intK, binA]
    by_cases hb : b < 0
    · simp only [Op.shift, hb, decide_true, if_true, pureOf, runtimePanic]; rfl
    · simp [Op.shift, hb, pureOf]; rfl
  case shr =>
    simp only [intK, binA]
    by_cases hb : b < 0
    · simp only [Op.shift, hb, decide_true, if_true, pureOf, runtimePanic]; rfl
    · simp [Op.shift, hb, pureOf]; rfl
  all_goals
    simp only [intK, binA]
    by_cases h : kd = kd'
    · subst h
      simp
    · simp [h, hne h]

/-- A call, with what comes next handed on. -/
abbrev CK (R : Type) := FuncId → List Value → AH → (Value → AH → Option R) → Option R

def CKok (call : CallA) (callK : CK R) : Prop := ∀ (g : FuncId) (ar : List Value) (h : AH) (k : Value → AH → Option R), callK g ar h k = match call g ar h with
  | some (v, h') => k v h'
  | none => none

def putK (σ : St) (dst : Option Tmp) (v : Value) (k : St → Option R) : Option R :=
  splitV v fun v => match putA σ dst v with
    | some σ' => k σ'
    | none => none

theorem putK_eq (σ : St) (dst : Option Tmp) (v : Value) (k : St → Option R) : putK σ dst v k = match putA σ dst v with
    | some σ' => k σ'
    | none => none := splitV_eq _ _

def stepK (P : Program) (gl : Nat → Option Nat) (call : CallA) (callK : CK R) (o : Oper) (σ : St) (k : St → Option R) : Option R :=
  match o.op with
  | .call { callee := .value f, args, .. } => match evA gl σ.T f with
    | some fv => match evL (evA gl σ.T) args.toList with
      | some l => match calleeA P fv l with
        | some (g, ar) => callK g ar σ.h fun v h' => putK { σ with h := h', ds := [] ++ σ.ds } o.dst v k
        | none => none
      | none => none
    | none => none
  | .binOp op t x y ty => match evA gl σ.T x, evA gl σ.T y with
    | some (.int kd a), some (.int kd' b) => intK op kd kd' a b fun v => putK { σ with h := σ.h, ds := [] ++ σ.ds } o.dst v k
    | _, _ => match stepV P call (evA gl σ.T) σ.h (.binOp op t x y ty) with
      | some (v, h', d) => putK { σ with h := h', ds := d ++ σ.ds } o.dst v k
      | none => none
  | op => match stepV P call (evA gl σ.T) σ.h op with
    | some (v, h', d) => putK { σ with h := h', ds := d ++ σ.ds } o.dst v k
    | none => none

theorem stepK_eq {call : CallA} {callK : CK R} (hc : CKok call callK) (o : Oper) (σ : St) (k : St → Option R) : stepK P gl call callK o σ k = match stepA P gl call o σ with
    | some σ' => k σ'
    | none => none := by
  have gen : (match stepV P call (evA gl σ.T) σ.h o.op with
      | some (v, h', d) => putK { σ with h := h', ds := d ++ σ.ds } o.dst v k
      | none => none) = match stepA P gl call o σ with
    | some σ' => k σ'
    | none => none := by
    unfold stepA
    cases stepV P call (evA gl σ.T) σ.h o.op with
    | none => rfl
    | some x => obtain ⟨v, h', d⟩ := x; exact putK_eq _ _ _ _
  rw [← gen]
  unfold stepK
  split
  · rename_i f args ts hop
    simp only [stepV, hop]
    cases evA gl σ.T f with
    | none => rfl
    | some fv =>
      dsimp only
      cases evL (evA gl σ.T) args.toList with
      | none => rfl
      | some l =>
        dsimp only
        cases calleeA P fv l with
        | none => rfl
        | some x =>
          obtain ⟨g, ar⟩ := x
          dsimp only
          rw [hc]
          cases call g ar σ.h with
          | none => rfl
          | some y => rfl
  · rename_i op t x y ty hop
    rw [hop]
    split
    · rename_i kd a kd' b hx hy
      rw [intK_eq (P := P) t (isConst x || isConst y)]
      simp only [stepV, opA, hx, hy]
      cases binA P op t (isConst x || isConst y) (.int kd a) (.int kd' b) with
      | none => rfl
      | some v => rfl
    · rfl
  · rename_i op h1 h2
    rfl

def doK (P : Program) (gl : Nat → Option Nat) (call : CallA) (callK : CK R) (ops : Array Oper) (o : Oper) (σ : St) (k : St → Option R) : Option R :=
  match wantA ops o σ.T with
  | some true => stepK P gl call callK o σ k
  | some false => match putA σ o.dst undef with
    | some σ' => k σ'
    | none => none
  | none => none

theorem doK_eq {call : CallA} {callK : CK R} (hc : CKok call callK) (ops : Array Oper) (o : Oper) (σ : St) (k : St → Option R) : doK P gl call callK ops o σ k = match doA P gl call ops o σ with
    | some σ' => k σ'
    | none => none := by
  unfold doK doA
  cases wantA ops o σ.T with
  | none => rfl
  | some b => cases b with
    | true => exact stepK_eq hc o σ k
    | false => rfl

def opsK (P : Program) (gl : Nat → Option Nat) (call : CallA) (callK : CK R) (ops : Array Oper) : List Oper → St → (St → Option R) → Option R
  | [], σ, k => k σ
  | o :: r, σ, k => doK P gl call callK ops o σ fun σ' => opsK P gl call callK ops r σ' k

theorem opsK_eq {call : CallA} {callK : CK R} (hc : CKok call callK) (ops : Array Oper) : ∀ (l : List Oper) (σ : St) (k : St → Option R), opsK P gl call callK ops l σ k = match opsA P gl call ops l σ with
    | some σ' => k σ'
    | none => none := by
  intro l
  induction l with
  | nil => intro σ k; rfl
  | cons o r ih =>
    intro σ k
    unfold opsK opsA
    rw [doK_eq hc]
    cases doA P gl call ops o σ with
    | none => rfl
    | some σ' => exact ih σ' k

def iterK (f : St → (XA → St → Option R) → Option R) : Nat → St → (XA → St → Option R) → Option R
  | 0, _, _ => none
  | n + 1, σ, k => f σ fun x σ' => match x with
    | .normal => iterK f n σ' k
    | x => k x σ'

theorem iterK_eq {f : St → (XA → St → Option R) → Option R} {g : St → Option (XA × St)} (h : ∀ σ k, f σ k = match g σ with
    | some (x, σ') => k x σ'
    | none => none) : ∀ (n : Nat) (σ : St) (k : XA → St → Option R), iterK f n σ k = match iterA g n σ with
    | some (x, σ') => k x σ'
    | none => none := by
  intro n
  induction n with
  | zero => intro σ k; rfl
  | succ n ih =>
    intro σ k
    unfold iterK iterA
    rw [h]
    cases g σ with
    | none => rfl
    | some y =>
      obtain ⟨x, σ'⟩ := y
      cases x with
      | normal => exact ih σ' k
      | exit id => rfl
      | ret => rfl

def codeK (P : Program) (gl : Nat → Option Nat) (reg : CallA → Array Oper → St → Option St) (call : CallA) (callK : CK R) (fuel : Nat) : Code → St → (XA → St → Option R) → Option R
  | .skip, σ, k => k .normal σ
  | .label _, σ, k => k .normal σ
  | .region _ ops false, σ, k => opsK P gl call callK ops ops.toList σ fun σ' => k .normal σ'
  | .region _ ops true, σ, k => match reg call ops σ with
    | some σ' => k .normal σ'
    | none => none
  | .seq a b, σ, k => codeK P gl reg call callK fuel a σ fun x σ' => match x with
    | .normal => codeK P gl reg call callK fuel b σ' k
    | x => k x σ'
  | .cond c t e, σ, k => match evA gl σ.T c with
    | some (.bool true) => codeK P gl reg call callK fuel t σ k
    | some (.bool false) => codeK P gl reg call callK fuel e σ k
    | _ => none
  | .block id c, σ, k => codeK P gl reg call callK fuel c σ fun x σ' => match x with
    | .exit id' => bif Nat.beq id' id then k .normal σ' else k (.exit id') σ'
    | x => k x σ'
  | .loop c, σ, k => iterK (fun σ k => codeK P gl reg call callK fuel c σ k) fuel σ k
  | .exit id, σ, k => k (.exit id) σ
  | .ret, σ, k => k .ret σ
  | _, _, _ => none

theorem codeK_eq {reg : CallA → Array Oper → St → Option St} {call : CallA} {callK : CK R} (hc : CKok call callK) (fuel : Nat) : ∀ (c : Code) (σ : St) (k : XA → St → Option R), codeK P gl reg call callK fuel c σ k = match codeA P gl reg call fuel c σ with
    | some (x, σ') => k x σ'
    | none => none := by
  intro c
  induction c with
  | skip => intro σ k; rfl
  | label => intro σ k; rfl
  | exit => intro σ k; rfl
  | ret => intro σ k; rfl
  | region id ops drawn =>
    intro σ k
    cases drawn with
    | false =>
      simp only [codeK, codeA]
      rw [opsK_eq hc]
      cases opsA P gl call ops ops.toList σ <;> rfl
    | true =>
      simp only [codeK, codeA]
      cases reg call ops σ <;> rfl
  | seq a b iha ihb =>
    intro σ k
    simp only [codeK, codeA]
    rw [iha]
    cases codeA P gl reg call fuel a σ with
    | none => rfl
    | some y =>
      obtain ⟨x, σ'⟩ := y
      cases x with
      | normal => exact ihb σ' k
      | exit id => rfl
      | ret => rfl
  | cond c t e iht ihe =>
    intro σ k
    simp only [codeK, codeA]
    generalize evA gl σ.T c = ev
    cases ev with
    | none => rfl
    | some v =>
      cases v
      case bool b =>
        cases b with
        | true => exact iht σ k
        | false => exact ihe σ k
      all_goals rfl
  | block id c ih =>
    intro σ k
    simp only [codeK, codeA]
    rw [ih]
    cases codeA P gl reg call fuel c σ with
    | none => rfl
    | some y =>
      obtain ⟨x, σ'⟩ := y
      cases x with
      | normal => rfl
      | exit id' =>
        dsimp only
        cases Nat.beq id' id <;> rfl
      | ret => rfl
  | loop c ih =>
    intro σ k
    simp only [codeK, codeA]
    exact iterK_eq ih fuel σ k
  | _ => intros; rfl

/-- What a function leaves. -/
def finK (P : Program) (fn : Func) (x : XA) (σ : St) : Option (Value × AH) :=
  match x with
  | .exit _ => none
  | _ => match σ.ds with
    | [] => match resA P σ.T σ.h fn.results.toList with
      | some vs => some (tupA vs, σ.h)
      | none => none
    | _ :: _ => none

/-- A function's own code, over what is known of the functions that it calls. -/
theorem oneK_ok {reg : CallA → Array Oper → St → Option St} (hreg : RegOK P gl reg) {call : CallA} (hcall : CallOK P gl call) {callK : CK (Value × AH)} (hc : CKok call callK) {fuel : Nat} {g : FuncId} {fn : Func} {c : Code} {ar : List Value} {h h' : AH} {v : Value}
    (hfn : P.funcs[g]? = some fn) (hb : fn.body = some c) (hname : (fn.name == "runtime.NumGoroutine") = false)
    (hrun : codeK P gl reg call callK fuel c ⟨argsT 0 ar .nil, ar.length + (fn.ntmps - ar.length), h, []⟩ (finK P fn) = some (v, h')) :
    (∀ (args : Array Value) (w : World), (callFunc g args).run P w = .ok (.enter g args) w) ∧ ∀ (μ : Nat → Loc) (w : World) (args : Array Value), HRel gl μ h w → LRel μ h.next ar args.toList →
      Calls P g args w fun e w' => ∃ c μ', e = .returned c ∧ HRel gl μ' h' w' ∧ Fr μ h w μ' h' w' ∧ VRel μ' h'.next v c := by
  rw [codeK_eq hc] at hrun
  split at hrun
  · rename_i x σ hcode
    have hfin : (∀ id, x ≠ .exit id) ∧ σ.ds = [] ∧ ∃ vs, resA P σ.T σ.h fn.results.toList = some vs ∧ v = tupA vs ∧ h' = σ.h := by
      unfold finK at hrun
      split at hrun
      · cases hrun
      · rename_i hx
        split at hrun
        · rename_i hds
          split at hrun
          · rename_i vs hvs
            cases hrun
            exact ⟨fun id e => hx id e, hds, vs, hvs, rfl, rfl⟩
          · cases hrun
        · cases hrun
    obtain ⟨hx, hds, vs, hres, rfl, rfl⟩ := hfin
    refine ⟨fun args w => callFunc_enter hfn hname hb args w, fun μ w args hh hr => ?_⟩
    refine calls_of_wp_defers hfn hb ?_
    have hs := enter_rel hh hr fn.ntmps
    refine wp_mono (codeA_ok hreg hcall fuel c _ x σ hcode μ _ w hs) ?_
    rintro e a1 w1 ⟨rfl, μ1, hs1, hf1⟩
    have key : Leaves P fn a1.tmps (fun e w' => ∃ c μ', e = .returned c ∧ HRel gl μ' σ.h w' ∧ Fr μ h w μ' σ.h w' ∧ VRel μ' σ.h.next (tupA vs) c) a1.defers .returning w1 := by
      have hr0 : runDs (fun _ _ _ => none) σ.ds σ.h = some σ.h := by rw [hds]; rfl
      refine leaves_ok (call := fun _ _ _ => none) (fun g ar h v h' hc => by cases hc) σ.ds a1.defers μ1 σ.h σ.h w1 hs1.ds hr0 hs1.tmps hs1.heap fun w' μ' hT' hh' hf' => ?_
      obtain ⟨c, e1, e2⟩ := results_run (P := P) hT' hh' hres
      exact ⟨c, e1, c, μ', rfl, hh', hf1.trans hf', e2⟩
    cases x with
    | normal => exact key
    | ret => exact key
    | exit id => exact absurd rfl (hx id)
  · cases hrun

end Go.Proofs.YtfiabhfeoljgiaaDoor.AI
