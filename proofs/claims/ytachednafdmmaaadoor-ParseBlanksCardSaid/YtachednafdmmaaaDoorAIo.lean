/- The abstract interpreter: regions whose order is drawn: their definition, and what an operation looks at. -/
import Derived.Test.YtachednafdmmaaaDoorAIn
namespace Go.Proofs.YtachednafdmmaaaDoor.AI
open Go
set_option linter.unusedVariables false
set_option linter.unusedSimpArgs false

/-- Kinds of operations: 0: it asks nothing of the heap; 1: it reads it; 2: it may change it. -/
def clsA (P : Program) : Op → Nat
  | .move _ | .assign _ | .pick .. | .build .. | .binOp .. | .unOp .. | .makeInterface .. | .makeFunc .. | .slice .. | .fieldAddr .. | .field .. | .indexAddr .. | .index .. | .extract .. | .nilCheck _ => 0
  | .convert s d _ => match P.underlying s with
    | some (.slice _) => match P.underlying d with
      | some .string => 1
      | _ => 2
    | _ => match P.underlying d with
      | some (.slice _) => 2
      | _ => 0
  | .load .. => 1
  | .lookup .. => 1
  | .call { callee := .builtin .len, .. } => 1
  | .call { callee := .builtin .max, .. } => 0
  | .call { callee := .builtin .min, .. } => 0
  | _ => 2

/-- The block that is read. -/
def rdBlk (ev : Operand → Option Value) : Op → Option Nat
  | .load _ a => match ev a with
    | some (.pointer (some p)) => some p.block
    | _ => none
  | .convert _ _ x => match ev x with
    | some (.slice (some p) _ _) => some p.block
    | _ => none
  | .lookup _ x _ _ => match ev x with
    | some (.map (some r)) => some r
    | _ => none
  | .call { args, .. } => match args.toList with
    | x :: _ => match ev x with
      | some (.map (some r)) => some r
      | _ => none
    | [] => none
  | _ => none

def unz (z : Nat) : Nat := bif Nat.beq z 7777 then 0 else z
theorem unz_le (z : Nat) : unz z ≤ z := by unfold unz; cases Nat.beq z 7777 with
  | true => exact Nat.zero_le z
  | false => exact Nat.le_refl z
theorem unz_ne (z : Nat) : unz z ≠ 7777 := by
  unfold unz
  cases h : Nat.beq z 7777 with
  | true => exact fun e => absurd (show (0 : Nat) = 7777 from e) (by decide)
  | false => exact fun e => (by have e' : z = 7777 := e; subst e'; cases h)
theorem unz_unz (z : Nat) : unz (unz z) = unz z := by
  have h := unz_ne z
  generalize unz z = y at *
  unfold unz
  cases h2 : Nat.beq y 7777 with
  | true => exact absurd (Nat.eq_of_beq_eq_true h2) h
  | false => rfl
def Blk.lock : Blk → Blk
  | .row _ z cs => .row true (unz z) cs
  | .mp _ es => .mp true es

def lockAll : List Nat → AH → Option AH
  | [], h => some h
  | b :: r, h => match h.get b with
    | some x => lockAll r (h.put b x.lock)
    | none => none

/-- The blocks as they were. -/
def unlockAll (h0 : AH) : List Nat → AH → AH
  | [], h => h
  | b :: r, h => unlockAll h0 r ⟨h.m.set b (h0.get b), h.next⟩

structure RSt where
  σ : St
  done : Nat
  last : Option Nat
  rds : List (Nat × Nat)

def lastOk (b : Nat) : Option Nat → Bool
  | none => true
  | some l => b.testBit l

def stepR (P : Program) (gl : Nat → Option Nat) (call : CallA) (ops : Array Oper) (bef : List Nat) (i : Nat) (r : RSt) : Option RSt :=
  match ops.toList[i]? with
  | none => none
  | some o =>
    let b := (bef[i]?).getD 0
    bif !Nat.beq (Nat.land b r.done) b || r.done.testBit i then none else
    match wantA ops o r.σ.T with
    | none => none
    | some false => match putA r.σ o.dst undef with
      | some σ' => some ⟨σ', r.done ||| 2 ^ i, r.last, r.rds⟩
      | none => none
    | some true =>
      match clsA P o.op with
      | 0 => match stepA P gl call o r.σ with
        | some σ' => some ⟨σ', r.done ||| 2 ^ i, r.last, r.rds⟩
        | none => none
      | 1 => bif lastOk b r.last then
          match stepA P gl call o r.σ with
          | some σ' => some ⟨σ', r.done ||| 2 ^ i, r.last, match rdBlk (evA gl r.σ.T) o.op with
            | some k => (i, k) :: r.rds
            | none => r.rds⟩
          | none => none
        else none
      | _ => bif lastOk b r.last then
          match lockAll ((r.rds.filter fun x => !b.testBit x.1).map (·.2)) r.σ.h with
          | some hl => match stepA P gl call o { r.σ with h := hl } with
            | some σ1 => some ⟨{ σ1 with h := unlockAll r.σ.h ((r.rds.filter fun x => !b.testBit x.1).map (·.2)) σ1.h }, r.done ||| 2 ^ i, some i, r.rds⟩
            | none => none
          | none => none
        else none

def runR (P : Program) (gl : Nat → Option Nat) (call : CallA) (ops : Array Oper) (bef : List Nat) : List Nat → RSt → Option RSt
  | [], r => some r
  | i :: l, r => match stepR P gl call ops bef i r with
    | some r' => runR P gl call ops bef l r'
    | none => none

/-- The masks of what waits for what are closed. -/
def befOk (ops : Array Oper) (bef : List Nat) : Bool :=
  (List.range ops.toList.length).all fun i => match ops.toList[i]? with
    | some o => Nat.beq ((bef[i]?).getD 0) (o.after.toList.foldl (fun s e => if Region.binds .any e then s ||| 2 ^ e.on ||| (bef[e.on]?).getD 0 else s) 0)
    | none => true

/-- Operations that share a temporary wait for one another, in the text's order. -/
def apartOk (ops : Array Oper) (bef : List Nat) : Bool :=
  (List.range ops.toList.length).all fun i => (List.range i).all fun j => match ops.toList[i]?, ops.toList[j]? with
    | some oi, some oj => ((bef[i]?).getD 0).testBit j || oj.apart ops oi
    | _, _ => true

def isEff (P : Program) (ops : Array Oper) (i : Nat) : Bool := match ops.toList[i]? with
  | some o => Nat.ble 2 (clsA P o.op)
  | none => true

/-- An order: what reads goes first. -/
def orderA (P : Program) (ops : Array Oper) (bef : List Nat) : Nat → Nat → List Nat → List Nat
  | 0, _, _ => []
  | f + 1, done, left =>
    let ready := left.filter fun i => let b := (bef[i]?).getD 0; Nat.beq (Nat.land b done) b
    match ready.find? fun i => !isEff P ops i with
    | some i => i :: orderA P ops bef f (done ||| 2 ^ i) (left.filter fun j => !Nat.beq i j)
    | none => match ready with
      | i :: _ => i :: orderA P ops bef f (done ||| 2 ^ i) (left.filter fun j => !Nat.beq i j)
      | [] => []

def regOk (P : Program) (ops : Array Oper) (bef ord : List Nat) : Bool := befOk ops bef && apartOk ops bef && (List.range ops.toList.length).all (fun i => ord.any (Nat.beq i))

def regWith (P : Program) (gl : Nat → Option Nat) (call : CallA) (ops : Array Oper) (bef ord : List Nat) (σ : St) : Option St :=
  bif regOk P ops bef ord then match runR P gl call ops bef ord ⟨σ, 0, none, []⟩ with
    | some r => some r.σ
    | none => none
  else none

def theReg (P : Program) (gl : Nat → Option Nat) : CallA → Array Oper → St → Option St := fun call ops σ =>
  regWith P gl call ops (Region.before ops).toList (orderA P ops (Region.before ops).toList ops.toList.length 0 (List.range ops.toList.length)) σ

-- WHAT AN OPERATION LOOKS AT

theorem evL_congr {ev ev' : Operand → Option Value} : ∀ (xs : List Operand), (∀ x ∈ xs, ev x = ev' x) → evL ev xs = evL ev' xs := by
  intro xs
  induction xs with
  | nil => intro _; rfl
  | cons x xs ih =>
    intro h
    simp only [evL, h x (by simp), ih (fun y hy => h y (by simp [hy]))]

theorem evP_congr {ev ev' : Operand → Option Value} : ∀ (xs : List (Nat × Operand)), (∀ x ∈ xs.map (·.2), ev x = ev' x) → evP ev xs = evP ev' xs := by
  intro xs
  induction xs with
  | nil => intro _; rfl
  | cons x xs ih =>
    intro h
    simp only [evP, h x.2 (by simp), ih (fun y hy => h y (by simp only [List.map_cons, List.mem_cons]; exact .inr hy))]

theorem evO_congr {ev ev' : Operand → Option Value} (x : Option Operand) (h : ∀ y, x = some y → ev y = ev' y) : evO ev x = evO ev' x := by
  cases x with
  | none => rfl
  | some y => simp only [evO, h y rfl]

variable {P : Program} {gl : Nat → Option Nat}

theorem opA_congr {ev ev' : Operand → Option Value} (h : AH) (op : Op) (he : ∀ x ∈ op.operands, ev x = ev' x) : opA P ev h op = opA P ev' h op := by
  cases op <;> simp only [Op.operands] at he <;> simp only [opA]
  case build t ps =>
    rw [evP_congr ps.toList fun x hx => he x (by simpa using hx)]
  case buildSlice t n ps =>
    rw [evP_congr ps.toList fun x hx => he x (by simpa using hx)]
  case makeMap t r =>
    cases r with
    | none => rfl
    | some x => simp only [opA, he x (by simp)]
  case makeFunc fn first cap =>
    rw [evL_congr first.toList fun x hx => he x (by simp at hx; simp [hx]), evL_congr cap.toList fun x hx => he x (by simp at hx; simp [hx])]
  case slice t x lo hi mx =>
    rw [he x (by simp), evO_congr lo fun y hy => he y (by simp [hy]), evO_congr hi fun y hy => he y (by simp [hy]), evO_congr mx fun y hy => he y (by simp [hy])]
  case call c =>
    obtain ⟨callee, args, ts⟩ := c
    cases callee <;> simp only
    rw [evL_congr args.toList fun x hx => he x (by simp at hx; simp [Call.operands, hx])]
  all_goals (first | rfl | (simp_all; done))

theorem bndG_congr {ev ev' : Operand → Option Value} {d : Nat} (x : Option Operand) (h : ∀ y, x = some y → ev y = ev' y) : bndG ev d x = bndG ev' d x := by
  cases x with
  | none => rfl
  | some y => simp only [bndG, h y rfl]
theorem opG_congr {ev ev' : Operand → Option Value} (op : Op) (he : ∀ x ∈ op.operands, ev x = ev' x) : opG P ev op = opG P ev' op := by
  cases op <;> simp only [Op.operands] at he <;> simp only [opG]
  case load t a => rw [he a (by simp)]
  case nilCheck x => rw [he x (by simp)]
  case fieldAddr t x i => rw [he x (by simp)]
  case indexAddr t x i => rw [he x (by simp), he i (by simp)]
  case convert s d x => rw [he x (by simp)]
  case slice t x lo hi mx =>
    rw [he x (by simp), bndG_congr lo fun y hy => he y (by simp [hy])]
    cases asS (ev' x) with
    | none => rfl
    | some q =>
      obtain ⟨l, off, ex, cs⟩ := q
      dsimp only
      rw [bndG_congr hi fun y hy => he y (by simp [hy])]
      cases mx with
      | none => rfl
      | some m =>
        have hm := bndG_congr (ev := ev) (ev' := ev') (d := 0) (some m) fun y hy => he y (by cases hy; simp)
        cases P.underlying t with
        | none => rfl
        | some u =>
          cases u <;> try rfl
          rename_i e
          dsimp only
          cases szT P e with
          | none => rfl
          | some z =>
            dsimp only
            rcases bndG ev' 0 lo with _ | ⟨b1, a⟩
            · rfl
            · dsimp only
              rcases bndG ev' l hi with _ | ⟨b2, r⟩
              · rfl
              · dsimp only
                rw [hm]
  case call c =>
    obtain ⟨callee, args, ts⟩ := c
    cases callee
    case builtin b =>
      cases b <;> try rfl
      simp only
      cases hl : args.toList with
      | nil => rfl
      | cons x r =>
        dsimp only
        rw [he x (by simp [Call.operands, ← Array.mem_toList_iff, hl])]
    all_goals rfl

theorem stepO_congr {call : CallA} {ev ev' : Operand → Option Value} (h : AH) (op : Op) (he : ∀ x ∈ op.operands, ev x = ev' x) : stepO P call ev h op = stepO P call ev' h op := by
  have ho := opA_congr (P := P) h op he
  cases op
  case call c =>
    obtain ⟨callee, args, ts⟩ := c
    cases callee
    case value f =>
      simp only [Op.operands] at he
      simp only [stepO]
      rw [he f (by simp [Call.operands]), evL_congr args.toList fun x hx => he x (by simp at hx; simp [Call.operands, hx])]
    all_goals (simp only [stepO]; rw [ho])
  case defer c =>
    obtain ⟨callee, args, ts⟩ := c
    cases callee
    case value f =>
      simp only [Op.operands] at he
      simp only [stepO]
      rw [he f (by simp [Call.operands]), evL_congr args.toList fun x hx => he x (by simp at hx; simp [Call.operands, hx])]
    all_goals (simp only [stepO]; rw [ho])
  all_goals (simp only [stepO]; rw [ho])

theorem stepV_congr {call : CallA} {ev ev' : Operand → Option Value} (h : AH) (op : Op) (he : ∀ x ∈ op.operands, ev x = ev' x) : stepV P call ev h op = stepV P call ev' h op := by
  unfold stepV
  rw [opG_congr op he, stepO_congr h op he]

theorem pur_opA {ev : Operand → Option Value} {h : AH} {op : Op} (hc : clsA P op = 0) {v : Value} {h' : AH} (hs : opA P ev h op = some (v, h')) :
    h' = h ∧ ∀ h2, opA P ev h2 op = some (v, h2) := by
  cases op
  case convert s d x =>
    simp only [clsA] at hc
    simp only [opA] at hs ⊢
    split at hs
    · rename_i u hu
      simp only [convA] at hs ⊢
      split at hc
      · split at hc <;> cases hc
      · rename_i hns
        split at hc
        · cases hc
        · rename_i hnd
          (repeat' split at hs) <;> first
            | (cases hs; done)
            | (exfalso; exact hns _ (by assumption))
            | (exfalso; exact hnd _ (by assumption))
            | (exfalso; subst_vars; exact hns _ (by assumption))
            | (cases hs; refine ⟨rfl, fun h2 => ?_⟩; simp only [*])
    · cases hs
  case makeInterface t x =>
    cases ht : Nat.ble gT t with
    | true =>
      simp only [opA, ht] at hs
      (repeat' split at hs) <;> cases hs
    | false =>
      simp only [opA, ht, cond_false] at hs ⊢
      (repeat' split at hs) <;> first
         | (cases hs; done)
         | (cases hs; refine ⟨rfl, fun h2 => rfl⟩)
  case call c =>
    obtain ⟨callee, args, ts⟩ := c
    cases callee
    case builtin b =>
      cases b <;> first
        | (simp [clsA] at hc; done)
        | (simp only [opA, builtinA] at hs ⊢
           (repeat' split at hs) <;> first
             | (cases hs; done)
             | (cases hs; refine ⟨rfl, fun h2 => ?_⟩; first | (simp only [*]; done) | simp [*]))
    all_goals (simp [clsA] at hc; done)
  all_goals first
    | (simp [clsA] at hc; done)
    | (simp only [opA] at hs ⊢
       (repeat' split at hs) <;> first
         | (cases hs; done)
         | (cases hs; refine ⟨rfl, fun h2 => ?_⟩; simp only [*]))

theorem purO_ok {call : CallA} {ev : Operand → Option Value} {h : AH} {op : Op} (hc : clsA P op = 0) {v : Value} {h' : AH} {d : List (FuncId × List Value)} (hs : stepO P call ev h op = some (v, h', d)) :
    h' = h ∧ d = [] ∧ ∀ h2, stepO P call ev h2 op = some (v, h2, []) := by
  have key : ∀ h, stepO P call ev h op = match opA P ev h op with
      | some (v, h') => some (v, h', [])
      | none => none := by
    intro h
    cases op <;> first
      | rfl
      | (rename_i c; obtain ⟨callee, args, ts⟩ := c; cases callee <;> first | rfl | (simp [clsA] at hc; done))
  rw [key] at hs
  split at hs
  · rename_i v1 h1 ho
    cases hs
    obtain ⟨e1, e2⟩ := pur_opA hc ho
    exact ⟨e1, rfl, fun h2 => by rw [key, e2]⟩
  · cases hs

theorem loadA_congr {h h2 : AH} {t : TypeId} {b off : Nat} (e : h2.get b = h.get b) : loadA P h2 t b off = loadA P h t b off := by
  unfold loadA
  rw [e]

theorem readA_congr {h h2 : AH} {b off k : Nat} (e : h2.get b = h.get b) : readA h2 b off k = readA h b off k := by
  rw [readA_def, readA_def]
  rw [e]

theorem mapEs_congr {h h2 : AH} {m : Value} (e : ∀ r, m = .map (some r) → h2.get r = h.get r) : mapEs h2 m = mapEs h m := by
  unfold mapEs
  split
  · rfl
  · rw [e _ rfl]
  · rfl

theorem lookupA_congr {h h2 : AH} {t : TypeId} {m k : Value} {ok : Bool} (e : ∀ r, m = .map (some r) → h2.get r = h.get r) : lookupA P h2 t m k ok = lookupA P h t m k ok := by
  unfold lookupA
  rw [mapEs_congr e]

theorem rdO_ok {call : CallA} {ev : Operand → Option Value} {h : AH} {op : Op} (hc : clsA P op = 1) {v : Value} {h' : AH} {d : List (FuncId × List Value)} (hs : stepO P call ev h op = some (v, h', d)) :
    h' = h ∧ d = [] ∧ ∀ h2 : AH, (∀ b, rdBlk ev op = some b → h2.get b = h.get b) → stepO P call ev h2 op = some (v, h2, []) := by
  cases op
  case load t a =>
    simp only [stepO, opA] at hs ⊢
    simp only [rdBlk]
    cases ha : ev a with
    | none => rw [ha] at hs; simp at hs
    | some u =>
      rw [ha] at hs
      cases u <;> try (simp at hs; done)
      rename_i p
      cases p with
      | none => simp at hs
      | some p =>
        obtain ⟨b, off, spot⟩ := p
        cases spot with
        | some s => simp at hs
        | none =>
          simp only at hs ⊢
          cases hl : loadA P h t b off with
          | none => rw [hl] at hs; simp at hs
          | some u =>
            rw [hl] at hs
            cases hs
            exact ⟨rfl, rfl, fun h2 he => by rw [loadA_congr (he b rfl), hl]⟩
  case lookup t x i ok =>
    simp only [stepO, opA] at hs ⊢
    simp only [rdBlk]
    cases hx : ev x with
    | none => rw [hx] at hs; simp at hs
    | some m =>
      cases hi : ev i with
      | none => rw [hx, hi] at hs; simp at hs
      | some k =>
        rw [hx, hi] at hs
        simp only at hs ⊢
        cases hl : lookupA P h t m k ok with
        | none => rw [hl] at hs; simp at hs
        | some u =>
          rw [hl] at hs
          cases hs
          refine ⟨rfl, rfl, fun h2 he => ?_⟩
          rw [lookupA_congr (h := h) (fun r hm => he r (by subst hm; rfl)), hl]
  case convert s dd x =>
    simp only [clsA] at hc
    simp only [stepO, opA] at hs ⊢
    simp only [rdBlk]
    split at hc
    · rename_i e hu
      cases hx : ev x with
      | none => rw [hx] at hs; simp at hs
      | some u =>
        rw [hx] at hs
        split at hc
        · rename_i hd
          simp only [convA, hu, hd] at hs ⊢
          cases u <;> try (simp at hs; done)
          case string s =>
            cases hs
            exact ⟨rfl, rfl, fun h2 _ => rfl⟩
          case slice a k c =>
            cases a with
            | none =>
              simp only at hs ⊢
              cases hu8 : isU8 P e with
              | false => rw [hu8] at hs; simp at hs
              | true =>
                rw [hu8] at hs
                cases hs
                exact ⟨rfl, rfl, fun h2 _ => rfl⟩
            | some p =>
              obtain ⟨b, off, spot⟩ := p
              cases spot with
              | some s => simp at hs
              | none =>
                simp only at hs ⊢
                cases hu8 : isU8 P e with
                | false => rw [hu8] at hs; simp at hs
                | true =>
                  rw [hu8] at hs
                  simp only [cond_true] at hs ⊢
                  cases hr : readA h b off k with
                  | none => rw [hr] at hs; simp at hs
                  | some cs =>
                    rw [hr] at hs
                    simp only at hs
                    cases hb : bytesOf cs with
                    | none => rw [hb] at hs; simp at hs
                    | some l =>
                      rw [hb] at hs
                      cases hs
                      exact ⟨rfl, rfl, fun h2 he => by rw [readA_congr (he b rfl), hr]; simp only [hb]⟩
        · cases hc
    · split at hc <;> cases hc
  case call c =>
    obtain ⟨callee, args, ts⟩ := c
    cases callee <;> try (simp [clsA] at hc; done)
    rename_i b
    cases b <;> try (simp [clsA] at hc; done)
    simp only [stepO, opA, rdBlk] at hs ⊢
    cases hl : args.toList with
    | nil => rw [hl] at hs; simp [evL, builtinA] at hs
    | cons x r =>
      rw [hl] at hs
      simp only [evL] at hs ⊢
      cases hx : ev x with
      | none => rw [hx] at hs; simp at hs
      | some u =>
        rw [hx] at hs
        simp only at hs ⊢
        cases hr : evL ev r with
        | none => rw [hr] at hs; simp at hs
        | some us =>
          rw [hr] at hs
          simp only [builtinA] at hs ⊢
          cases hv : lenA P h ts.toList u with
          | none => rw [hv] at hs; simp at hs
          | some y =>
            rw [hv] at hs
            cases hs
            refine ⟨rfl, rfl, fun h2 he => ?_⟩
            have : lenA P h2 ts.toList u = lenA P h ts.toList u := by
              cases u <;> try rfl
              rename_i m
              cases m with
              | none => rfl
              | some q => simp only [lenA, he q rfl]
            rw [this, hv]
  all_goals (simp [clsA] at hc; done)

theorem pur_ok {call : CallA} {ev : Operand → Option Value} {h : AH} {op : Op} (hc : clsA P op = 0) {v : Value} {h' : AH} {d : List (FuncId × List Value)} (hs : stepV P call ev h op = some (v, h', d)) :
    h' = h ∧ d = [] ∧ ∀ h2, stepV P call ev h2 op = some (v, h2, []) := by
  unfold stepV at hs ⊢
  cases hg : opG P ev op with
  | ok b u =>
    rw [hg] at hs
    cases b with
    | false => cases hs
    | true => cases hs; exact ⟨rfl, rfl, fun h2 => rfl⟩
  | bad => rw [hg] at hs; cases hs
  | no => rw [hg] at hs; exact purO_ok hc hs

theorem rd_ok {call : CallA} {ev : Operand → Option Value} {h : AH} {op : Op} (hc : clsA P op = 1) {v : Value} {h' : AH} {d : List (FuncId × List Value)} (hs : stepV P call ev h op = some (v, h', d)) :
    h' = h ∧ d = [] ∧ ∀ h2 : AH, (∀ b, rdBlk ev op = some b → h2.get b = h.get b) → stepV P call ev h2 op = some (v, h2, []) := by
  unfold stepV at hs ⊢
  cases hg : opG P ev op with
  | ok b u =>
    rw [hg] at hs
    cases b with
    | false => cases hs
    | true => cases hs; exact ⟨rfl, rfl, fun h2 _ => rfl⟩
  | bad => rw [hg] at hs; cases hs
  | no => rw [hg] at hs; exact rdO_ok hc hs


end Go.Proofs.YtachednafdmmaaaDoor.AI
