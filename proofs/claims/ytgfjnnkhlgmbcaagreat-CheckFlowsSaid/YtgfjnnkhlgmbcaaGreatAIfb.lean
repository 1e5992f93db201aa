/- The abstract interpreter, a fast form of it: from the program's code to what is run. -/
import Derived.Test.YtgfjnnkhlgmbcaaGreatAIfa
import Derived.Test.YtgfjnnkhlgmbcaaGreatAIz
import Derived.Test.YtgfjnnkhlgmbcaaGreatAInd
namespace Go.Proofs.YtgfjnnkhlgmbcaaGreat.AI
open Go
set_option linter.unusedVariables false
set_option linter.unusedSimpArgs false

variable (P : Program) (gl : Nat → Option Nat)

def noCall : CallA := fun _ _ _ => none

noncomputable def compArg : Operand → Option FArg
  | .tmp t => bif Nat.blt t 256 then some (.t (d16 (t / 16)) (d16 (t % 16))) else none
  | .const v => bif plainV v then some (.v v) else none
  | .global g => match gl g with
    | some id => some (.v (.pointer (some ⟨id, 0, none⟩)))
    | none => none
  | .func f => some (.v (.func (.func f) #[] #[]))

noncomputable def compArgs : List Operand → Option (List FArg)
  | [] => some []
  | x :: r => match compArg gl x with
    | some a => match compArgs r with
      | some l => some (a :: l)
      | none => none
    | none => none

noncomputable def kcOf (t : TypeId) : Nat := match P.underlying t with
  | some (.int kd) => kdN kd
  | some .bool => 8
  | some .string => 9
  | _ => 10
/-- The place of a temporary. -/
def slot (t : Tmp) : Option (D16 × D16) := bif Nat.blt t 256 then some (d16 (t / 16), d16 (t % 16)) else none
def slots : List Nat → Option (List (D16 × D16))
  | [] => some []
  | t :: r => match slot t with
    | some p => match slots r with
      | some l => some (p :: l)
      | none => none
    | none => none
def evT (gl : Nat → Option Nat) (T : TT) : Operand → Option Value
  | .tmp t => bif Nat.blt t 256 then T.get (d16 (t / 16)) (d16 (t % 16)) else none
  | .const v => bif plainV v then some v else none
  | .global g => (gl g).map fun id => .pointer (some ⟨id, 0, none⟩)
  | .func f => some (.func (.func f) #[] #[])
def opsThere (ev : Operand → Option Value) (op : Op) : Bool := op.operands.toList.all fun x => (ev x).isSome
noncomputable def slowF (op : Op) : TT → Option Value := fun T => bif opsThere (evT gl T) op then (match stepV P noCall (evT gl T) ⟨.nil, 0⟩ op with
  | some (v, _, _) => some v
  | none => none) else none
noncomputable def slowO (op : Op) : Option FOp := bif Nat.beq (clsA P op) 0 then some (.slow (slowF P gl op)) else none

noncomputable def compParts (place : Nat → Option (Nat × Nat)) : List (Nat × Operand) → Option (List (Nat × Nat × FArg))
  | [] => some []
  | (i, x) :: r => match place i with
    | some (off, n) => match compArg gl x with
      | some a => match compParts place r with
        | some l => some ((off, n, a) :: l)
        | none => none
      | none => none
    | none => none

noncomputable def compRow : Nat → List (Nat × Operand) → Option (List FArg)
  | _, [] => some []
  | k, (i, x) :: r => bif Nat.beq i k then (match compArg gl x with
    | some a => match compRow (k + 1) r with
      | some l => some (a :: l)
      | none => none
    | none => none) else none
def optArg (f : Operand → Option FArg) : Option Operand → Option (Option FArg)
  | none => some none
  | some x => match f x with
    | some a => some (some a)
    | none => none
def un1 (f : FArg → FOp) : Option FArg → Option FOp
  | some a => some (f a)
  | none => none
def un2 (f : FArg → FArg → FOp) : Option FArg → Option FArg → Option FOp
  | some a, some b => some (f a b)
  | _, _ => none

noncomputable def compOp (op : Op) : Option FOp :=
  match op with
  | .move x | .assign x => un1 .mv (compArg gl x)
  | .nilCheck x => un1 .nilc (compArg gl x)
  | .load t a => match aggT P t with
    | some true => match szT P t with
      | some n => un1 (fun a => .loadN a n) (compArg gl a)
      | none => none
    | some false => un1 (fun a => .load1 a (kcOf P t)) (compArg gl a)
    | none => none
  | .store t a x => match aggT P t with
    | some true => match szT P t with
      | some n => un2 (fun a x => .storeN a x n) (compArg gl a) (compArg gl x)
      | none => none
    | some false => match szT P t with
      | some n => bif Nat.beq n 1 then un2 .store1 (compArg gl a) (compArg gl x) else none
      | none => none
    | none => none
  | .fieldAddr t x i => match fieldsT P t with
    | some fs => match fs[i]? with
      | some f => match szT P f.type with
        | some n => bif Nat.beq n 0 then none else un1 (fun a => .faddr a f.offset) (compArg gl x)
        | none => none
      | none => none
    | none => none
  | .field t x i => match fieldsT P t with
    | some fs => match fs[i]? with
      | some f => match aggT P f.type with
        | some false => un1 (fun a => .fld1 a f.offset) (compArg gl x)
        | some true => slowO P gl op
        | none => none
      | none => none
    | none => none
  | .indexAddr t x i => match P.underlying t with
    | some (.slice e) => match szT P e with
      | some z => un2 (fun a b => .iaS a b z) (compArg gl x) (compArg gl i)
      | none => none
    | _ => slowO P gl op
  | .index t x i => match P.underlying t with
    | some .string => un2 .ixS (compArg gl x) (compArg gl i)
    | _ => slowO P gl op
  | .binOp b t x y _ => match P.underlying t with
    | some (.int _) => match b with
      | .add => un2 .add (compArg gl x) (compArg gl y)
      | .sub => un2 .sub (compArg gl x) (compArg gl y)
      | .eql => un2 .eql (compArg gl x) (compArg gl y)
      | .neq => un2 .neq (compArg gl x) (compArg gl y)
      | .lss => un2 .lss (compArg gl x) (compArg gl y)
      | .leq => un2 .leq (compArg gl x) (compArg gl y)
      | .gtr => un2 .lss (compArg gl y) (compArg gl x)
      | .geq => un2 .leq (compArg gl y) (compArg gl x)
      | _ => slowO P gl op
    | some .string => match b with
      | .eql => un2 .seql (compArg gl x) (compArg gl y)
      | .neq => un2 .sneq (compArg gl x) (compArg gl y)
      | _ => slowO P gl op
    | _ => slowO P gl op
  | .unOp .not _ x => un1 .not (compArg gl x)
  | .extract x i => un1 (fun a => .extr a i) (compArg gl x)
  | .makeFunc fn first cap => match compArgs gl first.toList with
    | some a => match compArgs gl cap.toList with
      | some b => some (.mkF fn a b)
      | none => none
    | none => none
  | .alloc t => match zeroA P t with
    | some z => some (.alloc z.cells.toList)
    | none => none
  | .box t x => match szT P t with
    | some n => un1 (fun a => .box a n) (compArg gl x)
    | none => none
  | .build t ps => match P.underlying t with
    | some (.struct fs) => match zeroA P t with
      | some z => bif allSz P fs.toList then (match compParts gl (placeF P fs.toList) ps.toList with
        | some l => some (.build z.cells.toList l)
        | none => none) else none
      | none => none
    | _ => slowO P gl op
  | .buildSlice t len ps => match P.underlying t with
    | some (.slice e) => match szT P e with
      | some z => match zeroA P e with
        | some zv => bif Nat.ble (len * z) 16777216 && Nat.beq ps.toList.length len && Nat.beq zv.cells.toList.length z then (match compRow gl 0 ps.toList with
          | some l => some (.bsl len z l)
          | none => none) else slowO P gl op
        | none => none
      | none => none
    | _ => none
  | .slice t x lo hi mx => match mx with
    | some _ => slowO P gl op
    | none => match P.underlying t with
      | some .string => match compArg gl x with
        | some a => match optArg (compArg gl) lo with
          | some l => match optArg (compArg gl) hi with
            | some r => some (.ssl a l r)
            | none => none
          | none => none
        | none => none
      | _ => slowO P gl op
  | .convert s d x => match P.underlying s with
    | some .string => match P.underlying d with
      | some .string => un1 .sid (compArg gl x)
      | some (.slice e) => bif isU8 P e then un1 .s2b (compArg gl x) else none
      | _ => slowO P gl op
    | _ => slowO P gl op
  | .call { callee := .value (.func g), args, .. } => match compArgs gl args.toList with
    | some l => some (.callF g l)
    | none => none
  | .call { callee := .value f, args, .. } => match compArg gl f with
    | some a => match compArgs gl args.toList with
      | some l => some (.callV a l)
      | none => none
    | none => none
  | .call { callee := .builtin .len, args, argTypes } => match args.toList with
    | [x] => match argTypes.toList with
      | t :: _ => match P.underlying t with
        | some .string => un1 .lenS (compArg gl x)
        | some (.slice _) => un1 .lenL (compArg gl x)
        | _ => slowO P gl op
      | _ => none
    | _ => none
  | .call { callee := .builtin .append, args, argTypes } => match args.toList with
    | [s, x] => match argTypes.toList with
      | tS :: tX :: _ => match P.underlying tS with
        | some (.slice e) => match P.info? e with
          | some i => match P.underlying tX with
            | some (.slice _) => match zeroA P e with
              | some zv => bif Nat.ble i.bytes 32768 && Nat.beq zv.cells.toList.length i.size && !Nat.beq i.size 0 then un2 (fun a b => .apd a b i.size) (compArg gl s) (compArg gl x) else none
              | none => none
            | _ => none
          | none => none
        | _ => none
      | _ => none
    | _ => none
  | .makeMap _ none => some .mkM
  | .makeSlice t l c => match P.underlying t with
    | some (.slice e) => match P.info? e with
      | some i => match zeroA P e with
        | some zv => bif Nat.ble i.bytes 65536 && Nat.beq zv.cells.toList.length i.size then un2 (fun a b => .mks a b i.size zv.cells.toList) (compArg gl l) (compArg gl c) else none
        | none => none
      | none => none
    | _ => none
  | .lookup t x i ok => match P.underlying t with
    | some (.map kt e) => match P.underlying kt with
      | some .string => match zeroA P e with
        | some z => un2 (fun a b => .look a b z ok) (compArg gl x) (compArg gl i)
        | none => none
      | _ => none
    | _ => none
  | .mapUpdate t x i y => match P.underlying t with
    | some (.map kt e) => match P.underlying kt with
      | some .string => match compArg gl y with
        | some c => un2 (fun a b => .mput a b c) (compArg gl x) (compArg gl i)
        | none => none
      | _ => none
    | _ => none
  | .defer _ => none
  | op => slowO P gl op

noncomputable def compG (ops : List Oper) (g : Option (Nat × Bool)) : Option FG :=
  match g with
  | none => some .no
  | some (j, want) => match ops[j]? with
    | some oj => match oj.dst with
      | some d => match slot d with
        | some (d, e) => some (.on d e want)
        | none => none
      | none => none
    | none => none
noncomputable def compD (n : Nat) (d : Option Tmp) : Option FD := match d with
  | none => some .no
  | some d => bif Nat.blt d n then (match slot d with
    | some (d, e) => some (.to d e)
    | none => none) else none

def mkStep (g : FG) (l : FL) (f : FOp) (d : FD) : FStep := match g with
  | .no => (match l with
    | .no => (match d with
      | .no => .n f
      | .to d e => .s f d e)
    | l => .op .no l f d)
  | g => .op g l f d

noncomputable def compStep (n : Nat) (ops : List Oper) (l : FL) (o : Oper) : Option FStep :=
  match compG ops o.guard with
  | none => none
  | some g => match compD n o.dst with
    | none => none
    | some d => match o.op with
      | .defer { callee := .value f, args, .. } => match l with
        | .no => match compArg gl f with
          | some a => match compArgs gl args.toList with
            | some l => some (.dfr g a l d)
            | none => none
          | none => none
        | _ => none
      | op => match compOp P gl op with
        | some f => some (mkStep g l f d)
        | none => none

noncomputable def compPlain (n : Nat) (ops : List Oper) : List Oper → Option (List FStep)
  | [] => some []
  | o :: r => match compStep P gl n ops .no o with
    | some s => match compPlain n ops r with
      | some l => some (s :: l)
      | none => none
    | none => none

/-- What a reading operation looks at. -/
noncomputable def rdArg (gl : Nat → Option Nat) : Op → Option (Nat × FArg)
  | .load _ a => (compArg gl a).map fun x => (0, x)
  | .convert _ _ x => (compArg gl x).map fun x => (1, x)
  | .lookup _ x _ _ => (compArg gl x).map fun x => (2, x)
  | .call { args, .. } => match args.toList with
    | x :: _ => (compArg gl x).map fun x => (2, x)
    | [] => none
  | _ => none

/-- The steps of an order; 'rs': the reading ones so far; 'ef': the masks of those that may change something. -/
noncomputable def compOrd (n : Nat) (ops : List Oper) (bef : List Nat) : List Nat → Nat → Nat → List Nat → Option (List FStep)
  | [], _, _, _ => some []
  | i :: r, done, ef, rs => match ops[i]? with
    | none => none
    | some o =>
      bif !Nat.beq (Nat.land (befN bef i) done) (befN bef i) || done.testBit i then none else
      match clsA P o.op with
      | 0 => match compStep P gl n ops .no o with
        | some s => match compOrd n ops bef r (done ||| 2 ^ i) ef rs with
          | some l => some (s :: l)
          | none => none
        | none => none
      | 1 => bif !Nat.beq (Nat.land (befN bef i) ef) ef then none else
        match rdArg gl o.op with
        | some (c, a) => match compStep P gl n ops (.rd i c a) o with
          | some s => match compOrd n ops bef r (done ||| 2 ^ i) ef (i :: rs) with
            | some l => some (s :: l)
            | none => none
          | none => none
        | none => none
      | _ => bif !Nat.beq (Nat.land (befN bef i) ef) ef then none else
        match compStep P gl n ops (bif rs.all fun j => (befN bef i).testBit j then .no else .wr (befN bef i)) o with
        | some s => match compOrd n ops bef r (done ||| 2 ^ i) (ef ||| 2 ^ i) rs with
          | some l => some (s :: l)
          | none => none
        | none => none

/-- The same where rows may be made at any time. -/
noncomputable def compOrdN (n : Nat) (ops : List Oper) (bef : List Nat) : List Nat → Nat → Nat → List Nat → Option (List FStep)
  | [], _, _, _ => some []
  | i :: r, done, ef, rs => match ops[i]? with
    | none => none
    | some o =>
      bif !Nat.beq (Nat.land (befN bef i) done) (befN bef i) || done.testBit i then none else
      bif isNew o then (match compStep P gl n ops (bif rs.isEmpty then .no else .nw) o with
        | some s => match compOrdN n ops bef r (done ||| 2 ^ i) (ef ||| 2 ^ i) rs with
          | some l => some (s :: l)
          | none => none
        | none => none) else
      match clsA P o.op with
      | 0 => match compStep P gl n ops .no o with
        | some s => match compOrdN n ops bef r (done ||| 2 ^ i) ef rs with
          | some l => some (s :: l)
          | none => none
        | none => none
      | 1 => bif !Nat.beq (Nat.land (befN bef i) ef) ef then none else
        match rdArg gl o.op with
        | some (c, a) => match compStep P gl n ops (.rd i c a) o with
          | some s => match compOrdN n ops bef r (done ||| 2 ^ i) ef (i :: rs) with
            | some l => some (s :: l)
            | none => none
          | none => none
        | none => none
      | _ => bif !Nat.beq (Nat.land (befN bef i) ef) ef then none else
        match compStep P gl n ops (bif rs.all fun j => (befN bef i).testBit j then .no else .wr (befN bef i)) o with
        | some s => match compOrdN n ops bef r (done ||| 2 ^ i) (ef ||| 2 ^ i) rs with
          | some l => some (s :: l)
          | none => none
        | none => none

noncomputable def compReg (n : Nat) (ops : Array Oper) : FC :=
  let bef := (Region.before ops).toList
  let all := List.range ops.toList.length
  bif linOk P ops bef (orderA P ops bef ops.toList.length 0 all) none then
    (bif regOk P ops bef (orderA P ops bef ops.toList.length 0 all) then
      (match compOrd P gl n ops.toList bef (orderA P ops bef ops.toList.length 0 all) 0 0 [] with
      | some l => .steps l
      | none => .bad) else .bad)
  else
    bif regNok P ops bef (orderN P ops bef ops.toList.length 0 all) n then
      (match compOrdN P gl n ops.toList bef (orderN P ops bef ops.toList.length 0 all) 0 0 [] with
      | some l => match slots (newDs ops.toList) with
        | some ps => .news ps l
        | none => .bad
      | none => .bad) else .bad

noncomputable def compC (n : Nat) : Code → FC
  | .skip => .skip
  | .label _ => .skip
  | .region _ ops false => match compPlain P gl n ops.toList ops.toList with
    | some l => .steps l
    | none => .bad
  | .region _ ops true => compReg P gl n ops
  | .seq a b => .seq (compC n a) (compC n b)
  | .cond c t e => match compArg gl c with
    | some x => .cond x (compC n t) (compC n e)
    | none => .bad
  | .block id c => .block id (compC n c)
  | .loop c => .loop (compC n c)
  | .exit id => .exit id
  | .ret => .ret
  | _ => .bad

noncomputable def compRes : List ResultVar → Option (List FRes)
  | [] => some []
  | .tmp t :: r => match compRes r with
    | some l => match slot t with
      | some (d, e) => some (.t d e :: l)
      | none => none
    | none => none
  | .cell a t :: r => match compRes r with
    | some l => match aggT P t with
      | some true => match szT P t with
        | some n => match slot a with
          | some (d, e) => some (.cn d e n :: l)
          | none => none
        | none => none
      | some false => match slot a with
        | some (d, e) => some (.c d e (kcOf P t) :: l)
        | none => none
      | none => none
    | none => none

noncomputable def compFn (g : Nat) : Option FFn :=
  match P.funcs[g]? with
  | none => none
  | some fn => match fn.body with
    | none => none
    | some c => bif fn.name == "runtime.NumGoroutine" then none else match compRes P fn.results.toList with
      | some l => match slots (List.range fn.ntmps) with
        | some ps => some (.mk ps (compC P gl fn.ntmps c) l)
        | none => none
      | none => none

noncomputable def mkTab : List Nat → Tr FFn
  | [] => .nil
  | g :: r => (mkTab r).set g (compFn P gl g)

/-- Functions that are not gone into. -/
def natTab (F : FuncId → List Value → Option Value) : List Nat → Tr FFn → Tr FFn
  | [], t => t
  | g :: r, t => (natTab F r t).set g (some (.nat (F g)))

end Go.Proofs.YtgfjnnkhlgmbcaaGreat.AI
namespace Go.Proofs.YtgfjnnkhlgmbcaaGreat.AI
open Go
set_option linter.unusedVariables false
set_option linter.unusedSimpArgs false

theorem d16_inj {s t : Nat} (hs : s < 256) (ht : t < 256) (h1 : d16 (s / 16) = d16 (t / 16)) (h2 : d16 (s % 16) = d16 (t % 16)) : s = t := by
  have a1 := d16_num (s / 16) (by omega)
  have a2 := d16_num (t / 16) (by omega)
  have a3 := d16_num (s % 16) (by omega)
  have a4 := d16_num (t % 16) (by omega)
  rw [h1] at a1
  rw [h2] at a3
  omega

/-- A state's temporaries: what the fast form knows the other knows too. -/
def SimT (T : TT) (S : Tr Value) : Prop := ∀ (t : Nat) (v : Value), t < 256 → T.get (d16 (t / 16)) (d16 (t % 16)) = some v → S.get t = some v

theorem SimT.nil {S : Tr Value} : SimT TT.nil S := fun t v _ h => by
  unfold TT.nil TT.get at h
  rw [Hex.nth_all, Hex.nth_all] at h
  cases h

theorem getT_some {d e : D16} {T : TT} {k : Value → O1} {r : Value} (h : getT d e T k = some r) : ∃ v, T.get d e = some v ∧ k v = some r := by
  unfold getT at h
  rw [selX_eq, selO_eq] at h
  unfold TT.get
  cases hv : (T.nth d).nth e with
  | none => rw [hv] at h; cases h
  | some v => rw [hv] at h; exact ⟨v, rfl, h⟩

theorem setT_some {d e : D16} {x : Option Value} {T : TT} {k : TT → O1} {r : Value} (h : setT d e x T k = some r) : ∃ T', k T' = some r ∧ T'.get d e = x ∧ ∀ d' e', (d' ≠ d ∨ e' ≠ e) → T'.get d' e' = T.get d' e' := by
  unfold setT at h
  rw [selX_eq] at h
  obtain ⟨X, h1, h2, h3⟩ := updO_ok e (T.nth d) x fun X' => updX d T X' k
  rw [h1] at h
  obtain ⟨T', h4, h5, h6⟩ := updX_ok d T X k
  rw [h4] at h
  refine ⟨T', h, ?_, fun d' e' hne => ?_⟩
  · unfold TT.get; rw [h5, h2]
  · unfold TT.get
    by_cases hd : d' = d
    · subst hd
      rw [h5]
      exact h3 e' (hne.resolve_left fun h => h rfl)
    · rw [h6 d' hd]

theorem slot_some {t : Tmp} {d e : D16} (h : slot t = some (d, e)) : t < 256 ∧ d = d16 (t / 16) ∧ e = d16 (t % 16) := by
  unfold slot at h
  cases hb : Nat.blt t 256 with
  | false => rw [hb] at h; cases h
  | true => rw [hb] at h; cases h; exact ⟨Nat.le_of_ble_eq_true hb, rfl, rfl⟩

theorem setT_sim {d e : D16} {x : Option Value} {T : TT} {S : Tr Value} {t : Tmp} {k : TT → O1} {r : Value} (hs : slot t = some (d, e)) (hT : SimT T S) (h : setT d e x T k = some r) : ∃ T', k T' = some r ∧ SimT T' (S.set t x) := by
  obtain ⟨ht, rfl, rfl⟩ := slot_some hs
  obtain ⟨T', h1, h2, h3⟩ := setT_some h
  refine ⟨T', h1, fun s v hs' hv => ?_⟩
  rw [Tr.get_set]
  by_cases e : s = t
  · subst e
    rw [if_pos rfl, ← h2, hv]
  · rw [if_neg e]
    refine hT s v hs' ?_
    rw [← h3, hv]
    by_cases h4 : d16 (s / 16) = d16 (t / 16)
    · exact .inr fun h5 => e (d16_inj hs' ht h4 h5)
    · exact .inl h4

-- THE HEAP

end Go.Proofs.YtgfjnnkhlgmbcaaGreat.AI
