/- The abstract interpreter: loops over rows of a heap. -/
import Derived.Test.YtkjiomdgdnjgiaaAIlc
namespace Go.Proofs.Ytkjiomdgdnjgiaa.AI
open Go Go.RowKit
set_option linter.unusedVariables false
set_option linter.unusedSimpArgs false

variable {P : Program} {gl : Nat → Option Nat} {reg : CallA → Array Oper → St → Option St} {call : CallA}

/-- A function with loops that are known, its calls run in place. -/
def runLI (P : Program) (gl : Nat → Option Nat) (reg : CallA → Array Oper → St → Option St) (n : Nat) (LK : LoopK Value) (fn : Func) (ar : List Value) (h : AH) : Option Value :=
  codeBK P gl reg (callA P gl reg n false) (inK P gl reg n) LK (bodyOf fn) ⟨argsT 0 ar .nil, ar.length + (fn.ntmps - ar.length), h, []⟩ (finV P fn)

theorem runLI_L {LO : LoopA} {LK : LoopK Value} (hL : LKok LO LK) {n : Nat} {fn : Func} {ar : List Value} {h : AH} : runLI P gl reg n LK fn ar h = runL P gl reg (callA P gl reg n false) LK fn ar h := by
  unfold runLI runL
  rw [codeBK_eq (inK_ok n) hL, codeBK_eq (toK_ok _) hL]

theorem plain_callsLI (hreg : RegOK P gl0 reg) {n : Nat} {LO : LoopA} {LK : LoopK Value} (hL : LKok LO LK) {g : FuncId} {fn : Func} {c : Code} {ar : List Value} {v : Value}
    (hfn : P.funcs[g]? = some fn) (hb : fn.body = some c) (hname : (fn.name == "runtime.NumGoroutine") = false) (hLO : LoopsOK P gl0 h0 LO (loopsOf (bodyOf fn))) (hrun : runLI P gl0 reg n LK fn ar h0 = some v) (hp : ar.all plainV = true) (hv : plainV v = true) (w : World) :
    Calls P g ⟨ar⟩ w fun e w' => e = .returned v ∧ Below w.heap.size w w' := by
  rw [runLI_L hL] at hrun
  exact plain_callsL hreg (callA_ok hreg n).1 hL hfn hb hname hLO hrun hp hv w

theorem finH_some {callK : CK (XA × List Value × List Blk × Nat)} (hK : CKok call callK) {LO : LoopA} {LK : LoopK (XA × List Value × List Blk × Nat)} (hL : LKok LO LK) {c : Code} {σ : St} {ts ids : List Nat} {y : XA} {vs : List Value} {bs : List Blk} {n : Nat}
    (hr : codeBK P gl reg call callK LK c σ (finH ts ids) = some (y, vs, bs, n)) :
    ∃ σ1, codeB P gl reg call LO c σ = some (y, σ1) ∧ picks ts σ1.T = some vs ∧ picksH ids σ1.h = some bs ∧ σ1.n = n ∧ σ1.ds = [] := by
  rw [codeBK_eq hK hL] at hr
  split at hr
  · rename_i x σ1 hc
    unfold finH at hr
    split at hr
    · rename_i hd
      split at hr
      · rename_i ws hw
        split at hr
        · rename_i cs hcs
          cases hr
          exact ⟨σ1, hc, hw, hcs, rfl, hd⟩
        · cases hr
      · cases hr
    · cases hr
  · cases hr

/-- A test that is told, not run. -/
noncomputable def tst (p : Prop) : Bool := @decide p (Classical.propDecidable p)
theorem tst_of {p : Prop} (h : p) : tst p = true := @decide_eq_true p (Classical.propDecidable p) h
theorem of_tst {p : Prop} (h : tst p = true) : p := @of_decide_eq_true p (Classical.propDecidable p) h

/-- Temporaries and blocks are forgotten. -/
theorem covers_sub {σ2 σ1 : St} (hn : σ1.n = σ2.n) (hT : ∀ (t : Nat) (v : Value), σ2.T.get t = some v → σ1.T.get t = some v) (hnx : σ1.h.next = σ2.h.next) (hh : ∀ (i : Nat) (b : Blk), σ2.h.get i = some b → σ1.h.get i = some b) (hd2 : σ2.ds = []) (hd1 : σ1.ds = []) :
    Covers gl0 h0 σ2 σ1 := by
  intro μE μ1 wE w a _ hs f
  refine ⟨μ1, ⟨hs.size.trans hn, fun t v ht => ?_, ⟨⟨fun i b hb => ?_, fun i b hb => ?_, fun i j bi bj hi hj => hs.heap.sep i j bi bj (hh i bi hi) (hh j bj hj), fun g i hg => (by cases hg)⟩, fun B C hB => ⟨(hs.heap.fz B C hB).1, fun ⟨i, b, hi, hr, hb⟩ => (hs.heap.fz B C hB).2 ⟨i, b, hh i b hi, hr, hb⟩⟩⟩, ?_⟩,
    ⟨f.os, f.tape, f.output, f.size, Nat.zero_le _, f.ext, f.keep, fun B hB => ?_, fun i b hi => (by simp [h0, AH.get, Tr.get_nil] at hi), fun i b hb hr => f.ron i b (hh i b hb) hr⟩⟩
  · obtain ⟨c, h1, h2⟩ := hs.tmps t v (hT t v ht)
    rw [hnx] at h2
    exact ⟨c, h1, h2⟩
  · rw [← hnx]; exact hs.heap.lt i b (hh i b hb)
  · rw [← hnx]; exact hs.heap.blk i b (hh i b hb)
  · have := hs.ds
    rw [hd1] at this
    rw [hd2, this.nilInv]
    exact .nil
  · obtain ⟨i, b, hi, hr, hb⟩ := hB
    exact f.own B ⟨i, b, hh i b hi, hr, hb⟩

/-- What is told of one loop (its first region's number, its temporaries): a test, and what it comes to. -/
def loQ (r : Nat) (ts : List Nat) (f : List Value → AH → Nat → Option (Bool × XA × St)) (LO : LoopA) : LoopA := fun c σ =>
  bif isReg r c then (match σ.ds with
    | [] => match picks ts σ.T with
      | some vs => match f vs σ.h σ.n with
        | some (b, x, σ') => bif b then some (x, σ') else none
        | none => none
      | none => none
    | _ :: _ => none) else LO c σ
def lkQ {R : Type} (r : Nat) (ts : List Nat) (f : List Value → AH → Nat → Option (Bool × XA × St)) (LK : LoopK R) : LoopK R := fun c σ k =>
  bif isReg r c then (match σ.ds with
    | [] => match picks ts σ.T with
      | some vs => match f vs σ.h σ.n with
        | some (b, x, σ') => bif b then k x σ' else none
        | none => none
      | none => none
    | _ :: _ => none) else LK c σ k
theorem lkQ_ok {R : Type} {r : Nat} {ts : List Nat} {f : List Value → AH → Nat → Option (Bool × XA × St)} {LO : LoopA} {LK : LoopK R} (h : LKok LO LK) : LKok (loQ r ts f LO) (lkQ r ts f LK) := by
  intro c σ k
  unfold lkQ loQ
  cases isReg r c with
  | false => exact h c σ k
  | true =>
    simp only [cond_true]
    cases σ.ds with
    | cons => rfl
    | nil =>
      dsimp only
      cases picks ts σ.T with
      | none => rfl
      | some vs =>
        dsimp only
        rcases f vs σ.h σ.n with _ | ⟨b, x, σ'⟩
        · rfl
        · cases b <;> rfl
theorem loQ_ok {r : Nat} {ts : List Nat} {f : List Value → AH → Nat → Option (Bool × XA × St)} {LO : LoopA} {hE : AH} {l : List Code}
    (hf : ∀ c ∈ l, isReg r c = true → ∀ (σ : St) (vs : List Value) (x : XA) (σ' : St), σ.ds = [] → picks ts σ.T = some vs → f vs σ.h σ.n = some (true, x, σ') → LoopTri P gl hE c σ x σ') (hl : LoopsOK P gl hE LO l) : LoopsOK P gl hE (loQ r ts f LO) l := by
  intro c hc σ x σ' hr
  unfold loQ at hr
  cases hk : isReg r c with
  | false => rw [hk] at hr; exact hl c hc σ x σ' hr
  | true =>
    rw [hk] at hr
    simp only [cond_true] at hr
    split at hr
    · rename_i hd
      split at hr
      · rename_i vs hv
        split at hr
        · rename_i b y σ2 hfe
          cases b with
          | false => cases hr
          | true => cases hr; exact hf c hc hk σ vs _ _ hd hv hfe
        · cases hr
      · cases hr
    · cases hr
/-- No loop is known. -/
def noLK {R : Type} : LoopK R := fun _ _ _ => none
theorem noLK_ok {R : Type} : LKok (R := R) noLO noLK := fun c σ k => rfl

end Go.Proofs.Ytkjiomdgdnjgiaa.AI
