/- The abstract interpreter: regions whose order is drawn, and code, with what comes next handed on. -/
import Derived.Test.YtachednafdmmaaaDoorAIlc
namespace Go.Proofs.YtachednafdmmaaaDoor.AI
open Go Go.RowKit
set_option linter.unusedVariables false
set_option linter.unusedSimpArgs false

variable {P : Program} {gl : Nat → Option Nat} {call : CallA} {R : Type}

def stepRK (P : Program) (gl : Nat → Option Nat) (call : CallA) (callK : CK R) (ops : Array Oper) (bef : List Nat) (i : Nat) (r : RSt) (k : RSt → Option R) : Option R :=
  match ops.toList[i]? with
  | none => none
  | some o =>
    bif !Nat.beq (Nat.land ((bef[i]?).getD 0) r.done) ((bef[i]?).getD 0) || r.done.testBit i then none else
    match wantA ops o r.σ.T with
    | none => none
    | some false => match putA r.σ o.dst undef with
      | some σ' => k ⟨σ', r.done ||| 2 ^ i, r.last, r.rds⟩
      | none => none
    | some true =>
      match clsA P o.op with
      | 0 => stepK P gl call callK o r.σ fun σ' => k ⟨σ', r.done ||| 2 ^ i, r.last, r.rds⟩
      | 1 => bif lastOk ((bef[i]?).getD 0) r.last then
          stepK P gl call callK o r.σ fun σ' => k ⟨σ', r.done ||| 2 ^ i, r.last, match rdBlk (evA gl r.σ.T) o.op with
            | some k => (i, k) :: r.rds
            | none => r.rds⟩
        else none
      | _ => bif lastOk ((bef[i]?).getD 0) r.last then
          match lockAll ((r.rds.filter fun x => !((bef[i]?).getD 0).testBit x.1).map (·.2)) r.σ.h with
          | some hl => stepK P gl call callK o { r.σ with h := hl } fun σ1 => k ⟨{ σ1 with h := unlockAll r.σ.h ((r.rds.filter fun x => !((bef[i]?).getD 0).testBit x.1).map (·.2)) σ1.h }, r.done ||| 2 ^ i, some i, r.rds⟩
          | none => none
        else none

theorem stepRK_eq {callK : CK R} (hc : CKok call callK) (ops : Array Oper) (bef : List Nat) (i : Nat) (r : RSt) (k : RSt → Option R) : stepRK P gl call callK ops bef i r k = match stepR P gl call ops bef i r with
    | some r' => k r'
    | none => none := by
  unfold stepRK stepR
  cases ops.toList[i]? with
  | none => rfl
  | some o =>
    dsimp only
    cases !Nat.beq (Nat.land ((bef[i]?).getD 0) r.done) ((bef[i]?).getD 0) || r.done.testBit i with
    | true => rfl
    | false =>
      dsimp only [cond_false]
      cases wantA ops o r.σ.T with
      | none => rfl
      | some b =>
        cases b with
        | false => dsimp only; cases putA r.σ o.dst undef <;> rfl
        | true =>
          dsimp only
          generalize clsA P o.op = cl
          rcases cl with _ | _ | cl
          · show stepK P gl call callK o r.σ _ = _
            rw [stepK_eq hc]
            cases stepA P gl call o r.σ <;> rfl
          · cases lastOk ((bef[i]?).getD 0) r.last with
            | false => rfl
            | true =>
              show stepK P gl call callK o r.σ _ = _
              rw [stepK_eq hc]
              cases stepA P gl call o r.σ <;> rfl
          · cases lastOk ((bef[i]?).getD 0) r.last with
            | false => rfl
            | true =>
              cases lockAll ((r.rds.filter fun x => !((bef[i]?).getD 0).testBit x.1).map (·.2)) r.σ.h with
              | none => rfl
              | some hl =>
                show stepK P gl call callK o { r.σ with h := hl } _ = _
                rw [stepK_eq hc]
                show _ = (match (match stepA P gl call o { r.σ with h := hl } with
                  | some σ1 => some (⟨{ σ1 with h := unlockAll r.σ.h ((r.rds.filter fun x => !((bef[i]?).getD 0).testBit x.1).map (·.2)) σ1.h }, r.done ||| 2 ^ i, some i, r.rds⟩ : RSt)
                  | none => none) with
                  | some r' => k r'
                  | none => none)
                cases stepA P gl call o { r.σ with h := hl } <;> rfl

def runRK (P : Program) (gl : Nat → Option Nat) (call : CallA) (callK : CK R) (ops : Array Oper) (bef : List Nat) : List Nat → RSt → (RSt → Option R) → Option R
  | [], r, k => k r
  | i :: l, r, k => stepRK P gl call callK ops bef i r fun r' => runRK P gl call callK ops bef l r' k
theorem runRK_eq {callK : CK R} (hc : CKok call callK) (ops : Array Oper) (bef : List Nat) : ∀ (l : List Nat) (r : RSt) (k : RSt → Option R), runRK P gl call callK ops bef l r k = match runR P gl call ops bef l r with
    | some r' => k r'
    | none => none := by
  intro l
  induction l with
  | nil => intro r k; rfl
  | cons i l ih =>
    intro r k
    unfold runRK runR
    rw [stepRK_eq hc]
    cases stepR P gl call ops bef i r with
    | none => rfl
    | some r' => exact ih r' k

def seqK (P : Program) (gl : Nat → Option Nat) (call : CallA) (callK : CK R) (ops : Array Oper) : List Nat → St → (St → Option R) → Option R
  | [], σ, k => k σ
  | j :: l, σ, k => match ops.toList[j]? with
    | some o => doK P gl call callK ops o σ fun σ1 => seqK P gl call callK ops l σ1 k
    | none => none
theorem seqK_eq {callK : CK R} (hc : CKok call callK) (ops : Array Oper) : ∀ (l : List Nat) (σ : St) (k : St → Option R), seqK P gl call callK ops l σ k = match seqA P gl call ops l σ with
    | some σ' => k σ'
    | none => none := by
  intro l
  induction l with
  | nil => intro σ k; rfl
  | cons j l ih =>
    intro σ k
    unfold seqK seqA
    cases ops.toList[j]? with
    | none => rfl
    | some o =>
      dsimp only
      rw [doK_eq hc]
      cases doA P gl call ops o σ with
      | none => rfl
      | some σ' => exact ih σ' k

def stepNK (P : Program) (gl : Nat → Option Nat) (call : CallA) (callK : CK R) (ops : Array Oper) (bef : List Nat) (i : Nat) (r : RSt) (k : RSt → Option R) : Option R :=
  match ops.toList[i]? with
  | none => none
  | some o => bif isNew o then
      (bif !Nat.beq (Nat.land (befN bef i) r.done) (befN bef i) || r.done.testBit i then none else
        bif r.rds.all fun x => !Nat.beq x.2 r.σ.h.next then stepK P gl call callK o r.σ fun σ' => k ⟨σ', r.done ||| 2 ^ i, some i, r.rds⟩ else none)
    else stepRK P gl call callK ops bef i r k
theorem stepNK_eq {callK : CK R} (hc : CKok call callK) (ops : Array Oper) (bef : List Nat) (i : Nat) (r : RSt) (k : RSt → Option R) : stepNK P gl call callK ops bef i r k = match stepN P gl call ops bef i r with
    | some r' => k r'
    | none => none := by
  unfold stepNK stepN
  cases ops.toList[i]? with
  | none => rfl
  | some o =>
    dsimp only
    cases isNew o with
    | false => exact stepRK_eq hc ops bef i r k
    | true =>
      dsimp only [cond_true]
      cases !Nat.beq (Nat.land (befN bef i) r.done) (befN bef i) || r.done.testBit i with
      | true => rfl
      | false =>
        dsimp only [cond_false]
        cases r.rds.all fun x => !Nat.beq x.2 r.σ.h.next with
        | false => rfl
        | true =>
          dsimp only [cond_true]
          rw [stepK_eq hc]
          cases stepA P gl call o r.σ <;> rfl
def runNK (P : Program) (gl : Nat → Option Nat) (call : CallA) (callK : CK R) (ops : Array Oper) (bef : List Nat) : List Nat → RSt → (RSt → Option R) → Option R
  | [], r, k => k r
  | i :: l, r, k => stepNK P gl call callK ops bef i r fun r' => runNK P gl call callK ops bef l r' k
theorem runNK_eq {callK : CK R} (hc : CKok call callK) (ops : Array Oper) (bef : List Nat) : ∀ (l : List Nat) (r : RSt) (k : RSt → Option R), runNK P gl call callK ops bef l r k = match runN P gl call ops bef l r with
    | some r' => k r'
    | none => none := by
  intro l
  induction l with
  | nil => intro r k; rfl
  | cons i l ih =>
    intro r k
    unfold runNK runN
    rw [stepNK_eq hc]
    cases stepN P gl call ops bef i r with
    | none => rfl
    | some r' => exact ih r' k
/-- A region whose order is drawn. -/
def regFK0 (P : Program) (gl : Nat → Option Nat) (call : CallA) (callK : CK R) (ops : Array Oper) (σ : St) (k : St → Option R) : Option R :=
  match (Region.before ops).toList with
  | bef => match List.range ops.toList.length with
    | all => match orderA P ops bef ops.toList.length 0 all with
      | ord => bif linOk P ops bef ord none then (bif regOk P ops bef ord then runRK P gl call callK ops bef ord ⟨σ, 0, none, []⟩ fun r => k r.σ else none)
        else match all.filterMap (floatOf ops bef) with
          | F => match maskOf (F.map (·.i)) with
            | fm => match all.filter fun i => Nat.beq (Nat.land (befN bef i) fm) 0 && !fm.testBit i with
              | R1 => match all.filter fun i => !Nat.beq (Nat.land (befN bef i) fm) 0 && !fm.testBit i with
                | R2 => match orderA P ops bef ops.toList.length 0 R1 with
                  | ord1 => bif fltOk P ops bef F R1 R2 ord1 σ.n then runRK P gl call callK ops bef ord1 ⟨{ σ with T := clearT F σ.T }, 0, none, []⟩ fun r => match allocF P F r.σ with
                      | some σ2 => seqK P gl call callK ops R2 σ2 k
                      | none => none
                    else none

theorem regFK0_eq {callK : CK R} (hc : CKok call callK) (ops : Array Oper) (σ : St) (k : St → Option R) : regFK0 P gl call callK ops σ k = match regF0 P gl call ops σ with
    | some σ' => k σ'
    | none => none := by
  unfold regFK0 regF0
  dsimp only
  cases linOk P ops (Region.before ops).toList (orderA P ops (Region.before ops).toList ops.toList.length 0 (List.range ops.toList.length)) none with
  | true =>
    dsimp only [cond_true]
    unfold theReg regWith
    cases regOk P ops (Region.before ops).toList (orderA P ops (Region.before ops).toList ops.toList.length 0 (List.range ops.toList.length)) with
    | false => rfl
    | true =>
      dsimp only [cond_true]
      rw [runRK_eq hc]
      cases runR P gl call ops (Region.before ops).toList (orderA P ops (Region.before ops).toList ops.toList.length 0 (List.range ops.toList.length)) ⟨σ, 0, none, []⟩ <;> rfl
  | false =>
    dsimp only [cond_false]
    unfold fltWith
    generalize List.filterMap (floatOf ops (Region.before ops).toList) (List.range ops.toList.length) = F
    generalize maskOf (F.map (·.i)) = fm
    generalize (List.range ops.toList.length).filter (fun i => Nat.beq (Nat.land (befN (Region.before ops).toList i) fm) 0 && !fm.testBit i) = R1
    generalize (List.range ops.toList.length).filter (fun i => !Nat.beq (Nat.land (befN (Region.before ops).toList i) fm) 0 && !fm.testBit i) = R2
    generalize orderA P ops (Region.before ops).toList ops.toList.length 0 R1 = ord1
    cases fltOk P ops (Region.before ops).toList F R1 R2 ord1 σ.n with
    | false => rfl
    | true =>
      dsimp only [cond_true]
      rw [runRK_eq hc]
      cases runR P gl call ops (Region.before ops).toList ord1 ⟨{ σ with T := clearT F σ.T }, 0, none, []⟩ with
      | none => rfl
      | some r =>
        dsimp only
        cases allocF P F r.σ with
        | none => rfl
        | some σ2 => exact seqK_eq hc ops R2 σ2 k

def regFK (P : Program) (gl : Nat → Option Nat) (call : CallA) (callK : CK R) (ops : Array Oper) (σ : St) (k : St → Option R) : Option R :=
  match (Region.before ops).toList with
  | bef => match List.range ops.toList.length with
    | all => match orderA P ops bef ops.toList.length 0 all with
      | ord => bif linOk P ops bef ord none then (bif regOk P ops bef ord then runRK P gl call callK ops bef ord ⟨σ, 0, none, []⟩ fun r => k r.σ else none)
        else match orderN P ops bef ops.toList.length 0 all with
          | ordn => bif regNok P ops bef ordn σ.n then (runNK P gl call callK ops bef ordn ⟨{ σ with T := clearL (newDs ops.toList) σ.T }, 0, none, []⟩ fun r => k r.σ) else regFK0 P gl call callK ops σ k
theorem regFK_eq {callK : CK R} (hc : CKok call callK) (ops : Array Oper) (σ : St) (k : St → Option R) : regFK P gl call callK ops σ k = match regF P gl call ops σ with
    | some σ' => k σ'
    | none => none := by
  unfold regFK regF
  dsimp only
  cases linOk P ops (Region.before ops).toList (orderA P ops (Region.before ops).toList ops.toList.length 0 (List.range ops.toList.length)) none with
  | true =>
    dsimp only [cond_true]
    unfold theReg regWith
    cases regOk P ops (Region.before ops).toList (orderA P ops (Region.before ops).toList ops.toList.length 0 (List.range ops.toList.length)) with
    | false => rfl
    | true =>
      dsimp only [cond_true]
      rw [runRK_eq hc]
      cases runR P gl call ops (Region.before ops).toList (orderA P ops (Region.before ops).toList ops.toList.length 0 (List.range ops.toList.length)) ⟨σ, 0, none, []⟩ <;> rfl
  | false =>
    dsimp only [cond_false]
    cases hn : regNok P ops (Region.before ops).toList (orderN P ops (Region.before ops).toList ops.toList.length 0 (List.range ops.toList.length)) σ.n with
    | false => exact regFK0_eq hc ops σ k
    | true =>
      dsimp only [cond_true]
      unfold regN
      rw [hn]
      dsimp only [cond_true]
      rw [runNK_eq hc]
      cases runN P gl call ops (Region.before ops).toList (orderN P ops (Region.before ops).toList ops.toList.length 0 (List.range ops.toList.length)) ⟨{ σ with T := clearL (newDs ops.toList) σ.T }, 0, none, []⟩ <;> rfl
/-- Code, all that it asks handed on. -/
def codeG {R : Type} (P : Program) (gl : Nat → Option Nat) (call : CallA) (callK : CK R) (LK : LoopK R) : Code → St → (XA → St → Option R) → Option R
  | .skip, σ, k => k .normal σ
  | .label _, σ, k => k .normal σ
  | .region _ ops false, σ, k => opsK P gl call callK ops ops.toList σ fun σ' => k .normal σ'
  | .region _ ops true, σ, k => regFK P gl call callK ops σ fun σ' => k .normal σ'
  | .seq a b, σ, k => codeG P gl call callK LK a σ fun x σ' => match x with
    | .normal => codeG P gl call callK LK b σ' k
    | x => k x σ'
  | .cond c t e, σ, k => match evA gl σ.T c with
    | some (.bool true) => codeG P gl call callK LK t σ k
    | some (.bool false) => codeG P gl call callK LK e σ k
    | _ => none
  | .block id c, σ, k => codeG P gl call callK LK c σ fun x σ' => match x with
    | .exit id' => bif Nat.beq id' id then k .normal σ' else k (.exit id') σ'
    | x => k x σ'
  | .loop c, σ, k => LK c σ k
  | .exit id, σ, k => k (.exit id) σ
  | .ret, σ, k => k .ret σ
  | _, _, _ => none

theorem codeG_eq {R : Type} {callK : CK R} (hc : CKok call callK) {LO : LoopA} {LK : LoopK R} (hL : LKok LO LK) : ∀ (c : Code) (σ : St) (k : XA → St → Option R), codeG P gl call callK LK c σ k = match codeB P gl (regF P gl) call LO c σ with
    | some (x, σ') => k x σ'
    | none => none := by
  intro c
  induction c with
  | skip => intro σ k; rfl
  | label => intro σ k; rfl
  | exit => intro σ k; rfl
  | ret => intro σ k; rfl
  | region id ops drawn =>
    intro σ k
    cases drawn with
    | false =>
      simp only [codeG, codeB]
      rw [opsK_eq hc]
      cases opsA P gl call ops ops.toList σ <;> rfl
    | true =>
      simp only [codeG, codeB]
      rw [regFK_eq hc]
      cases regF P gl call ops σ <;> rfl
  | seq a b iha ihb =>
    intro σ k
    simp only [codeG, codeB]
    rw [iha]
    cases codeB P gl (regF P gl) call LO a σ with
    | none => rfl
    | some y =>
      obtain ⟨x, σ'⟩ := y
      cases x with
      | normal => exact ihb σ' k
      | exit id => rfl
      | ret => rfl
  | cond c t e iht ihe =>
    intro σ k
    simp only [codeG, codeB]
    generalize evA gl σ.T c = ev
    cases ev with
    | none => rfl
    | some v =>
      cases v
      case bool b =>
        cases b with
        | true => exact iht σ k
        | false => exact ihe σ k
      all_goals rfl
  | block id c ih =>
    intro σ k
    simp only [codeG, codeB]
    rw [ih]
    cases codeB P gl (regF P gl) call LO c σ with
    | none => rfl
    | some y =>
      obtain ⟨x, σ'⟩ := y
      cases x with
      | normal => rfl
      | exit id' =>
        dsimp only
        cases Nat.beq id' id <;> rfl
      | ret => rfl
  | loop c ih => intro σ k; exact hL c σ k
  | _ => intros; rfl

end Go.Proofs.YtachednafdmmaaaDoor.AI
