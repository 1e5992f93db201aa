/- The abstract interpreter: functions with loops, from their arguments. -/
import Derived.Test.YtachednafdmmaaaDoorAIlb
namespace Go.Proofs.YtachednafdmmaaaDoor.AI
open Go Go.RowKit
set_option linter.unusedVariables false
set_option linter.unusedSimpArgs false

variable {P : Program}

/-- The k-th loop's body of a function. -/
def loopN (fn : Func) (k : Nat) : Code := match (loopsOf (bodyOf fn))[k]? with
  | some c => c
  | none => .skip

end Go.Proofs.YtachednafdmmaaaDoor.AI
namespace Go.Proofs.YtachednafdmmaaaDoor.AI
open Go Go.RowKit
set_option linter.unusedVariables false
set_option linter.unusedSimpArgs false

variable {P : Program} {gl : Nat → Option Nat} {reg : CallA → Array Oper → St → Option St} {call : CallA}

/-- A test that is told, not run. -/
noncomputable def tst (p : Prop) : Bool := @decide p (Classical.propDecidable p)
theorem tst_of {p : Prop} (h : p) : tst p = true := @decide_eq_true p (Classical.propDecidable p) h
theorem of_tst {p : Prop} (h : tst p = true) : p := @of_decide_eq_true p (Classical.propDecidable p) h

/-- What is told of one loop (its first region's number, its temporaries): a test, and what it comes to. -/
def loQ (r : Nat) (ts : List Nat) (f : List Value → AH → Nat → Option (Bool × XA × St)) (LO : LoopA) : LoopA := fun c σ =>
  bif isReg r c then (match σ.ds with
    | [] => match picks ts σ.T with
      | some vs => match f vs σ.h σ.n with
        | some (b, x, σ') => bif b then some (x, σ') else none
        | none => none
      | none => none
    | _ :: _ => none) else LO c σ
def lkQ {R : Type} (r : Nat) (ts : List Nat) (f : List Value → AH → Nat → Option (Bool × XA × St)) (LK : LoopK R) : LoopK R := fun c σ k =>
  bif isReg r c then (match σ.ds with
    | [] => match picks ts σ.T with
      | some vs => match f vs σ.h σ.n with
        | some (b, x, σ') => bif b then k x σ' else none
        | none => none
      | none => none
    | _ :: _ => none) else LK c σ k
theorem lkQ_ok {R : Type} {r : Nat} {ts : List Nat} {f : List Value → AH → Nat → Option (Bool × XA × St)} {LO : LoopA} {LK : LoopK R} (h : LKok LO LK) : LKok (loQ r ts f LO) (lkQ r ts f LK) := by
  intro c σ k
  unfold lkQ loQ
  cases isReg r c with
  | false => exact h c σ k
  | true =>
    simp only [cond_true]
    cases σ.ds with
    | cons => rfl
    | nil =>
      dsimp only
      cases picks ts σ.T with
      | none => rfl
      | some vs =>
        dsimp only
        rcases f vs σ.h σ.n with _ | ⟨b, x, σ'⟩
        · rfl
        · cases b <;> rfl
theorem loQ_ok {r : Nat} {ts : List Nat} {f : List Value → AH → Nat → Option (Bool × XA × St)} {LO : LoopA} {hE : AH} {l : List Code}
    (hf : ∀ c ∈ l, isReg r c = true → ∀ (σ : St) (vs : List Value) (x : XA) (σ' : St), σ.ds = [] → picks ts σ.T = some vs → f vs σ.h σ.n = some (true, x, σ') → LoopTri P gl hE c σ x σ') (hl : LoopsOK P gl hE LO l) : LoopsOK P gl hE (loQ r ts f LO) l := by
  intro c hc σ x σ' hr
  unfold loQ at hr
  cases hk : isReg r c with
  | false => rw [hk] at hr; exact hl c hc σ x σ' hr
  | true =>
    rw [hk] at hr
    simp only [cond_true] at hr
    split at hr
    · rename_i hd
      split at hr
      · rename_i vs hv
        split at hr
        · rename_i b y σ2 hfe
          cases b with
          | false => cases hr
          | true => cases hr; exact hf c hc hk σ vs _ _ hd hv hfe
        · cases hr
      · cases hr
    · cases hr
/-- No loop is known. -/
def noLK {R : Type} : LoopK R := fun _ _ _ => none
theorem noLK_ok {R : Type} : LKok (R := R) noLO noLK := fun c σ k => rfl

end Go.Proofs.YtachednafdmmaaaDoor.AI
namespace Go.Proofs.YtachednafdmmaaaDoor.AI
open Go Go.RowKit
set_option linter.unusedVariables false
set_option linter.unusedSimpArgs false

/-- A value whose blocks go by other names, and have more room (the new one first). -/
inductive RenE (ρ ε : Nat → Nat) (n : Nat) : Value → Value → Prop where
  | plain (v : Value) : plain1 v = true → RenE ρ ε n v v
  | gv (v : Value) : GVal v → RenE ρ ε n v v
  | ptr (b o : Nat) : b < n → RenE ρ ε n (.pointer (some ⟨b, o, none⟩)) (.pointer (some ⟨ρ b, o, none⟩))
  | slc (b o l c c' : Nat) : b < n → l ≠ 0 → (∀ s, l + c / 2 + c % 2 * (s + ε b) = l + c' / 2 + c' % 2 * s) → RenE ρ ε n (.slice (some ⟨b, o, none⟩) l c) (.slice (some ⟨ρ b, o, none⟩) l c')
def RenEL (ρ ε : Nat → Nat) (n : Nat) (xs ys : List Value) : Prop := xs.length = ys.length ∧ ∀ (i : Nat) (x y : Value), xs[i]? = some x → ys[i]? = some y → RenE ρ ε n x y
theorem RenEL.nil {ρ ε : Nat → Nat} {n : Nat} : RenEL ρ ε n [] [] := ⟨rfl, fun i x y h _ => by simp at h⟩
theorem RenEL.cons {ρ ε : Nat → Nat} {n : Nat} {x y : Value} {xs ys : List Value} (h : RenE ρ ε n x y) (t : RenEL ρ ε n xs ys) : RenEL ρ ε n (x :: xs) (y :: ys) := by
  refine ⟨by simp [t.1], fun i a b ha hb => ?_⟩
  cases i with
  | zero => simp at ha hb; subst ha hb; exact h
  | succ i => exact t.2 i a b (by simpa using ha) (by simpa using hb)

def renE (ρ ε : Nat → Nat) (μ : Mu) : Mu := ⟨fun i => ⟨(μ (ρ i)).b, (μ (ρ i)).o, (μ (ρ i)).s + ε i⟩, μ.fr⟩
theorem RenE.vrel {ρ ε : Nat → Nat} {n : Nat} {μ : Mu} {n1 : Nat} {v2 v1 : Value} (h : RenE ρ ε n v2 v1) {c : Value} (hc : VRel μ n1 v1 c) : VRel (renE ρ ε μ) n v2 c := by
  cases h with
  | plain v hv =>
    rw [hc.plain_eq hv]
    exact .plain _ hv
  | gv v hv => exact hv.vrel (μ := μ) (μ' := renE ρ ε μ) (fun _ _ h => h) hc
  | ptr b o hb =>
    obtain ⟨_, rfl⟩ := hc.pointer
    exact VRel.ptr (μ := renE ρ ε μ) b o hb
  | slc b o l c c' hb hl he =>
    cases hc with
    | plain v hv => simp [plain1] at hv
    | slc b' o1 l' k' hb' =>
      have := VRel.slc (μ := renE ρ ε μ) b o l c hb
      have e : l + c / 2 + c % 2 * (renE ρ ε μ b).s = l + c' / 2 + c' % 2 * (μ (ρ b)).s := he (μ (ρ b)).s
      rw [e] at this
      exact this
    | slc0 b' o1 o'' hb' hs => exact absurd rfl hl

def RenEB (ρ ε : Nat → Nat) (n e : Nat) : Blk → Blk → Prop
  | .row r z cs, .row r' z' cs' => r = r' ∧ z = z' ∧ ∃ us tl, cs' = us ++ tl ∧ RenEL ρ ε n cs us ∧ e * z ≤ tl.length
  | _, _ => False
theorem RenEB.ro {ρ ε : Nat → Nat} {n e : Nat} {b b1 : Blk} (h : RenEB ρ ε n e b b1) : b1.ro = b.ro := by
  cases b <;> cases b1 <;> first | exact h.elim | exact h.1.symm

end Go.Proofs.YtachednafdmmaaaDoor.AI
