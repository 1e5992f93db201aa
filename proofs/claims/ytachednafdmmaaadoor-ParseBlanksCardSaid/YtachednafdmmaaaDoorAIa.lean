/- The abstract interpreter: its definitions. -/
import Derived.Below
import Derived.Defers
import Derived.Orders
namespace Go.Proofs.YtachednafdmmaaaDoor.AI
open Go
set_option linter.unusedVariables false
set_option linter.unusedSimpArgs false

/-- A trie, its keys numbers. -/
inductive Tr (α : Type) where
  | nil : Tr α
  | node (v : Option α) (l r : Tr α) : Tr α

def Tr.get {α : Type} : Tr α → Nat → Option α
  | .nil, _ => none
  | .node v _ _, 0 => v
  | .node _ l r, k + 1 => bif Nat.beq (k % 2) 0 then l.get (k / 2) else r.get (k / 2)

def Tr.setF {α : Type} : Nat → Tr α → Nat → Option α → Tr α
  | 0, t, _, _ => t
  | _ + 1, .nil, 0, x => .node x .nil .nil
  | _ + 1, .node _ l r, 0, x => .node x l r
  | f + 1, .nil, k + 1, x => bif Nat.beq (k % 2) 0 then .node none (Tr.setF f .nil (k / 2) x) .nil else .node none .nil (Tr.setF f .nil (k / 2) x)
  | f + 1, .node v l r, k + 1, x => bif Nat.beq (k % 2) 0 then .node v (Tr.setF f l (k / 2) x) r else .node v l (Tr.setF f r (k / 2) x)

def Tr.set {α : Type} (t : Tr α) (k : Nat) (x : Option α) : Tr α := Tr.setF (k + 1) t k x

theorem Tr.get_nil {α : Type} (k : Nat) : (Tr.nil : Tr α).get k = none := by cases k <;> rfl

theorem Tr.get_setF {α : Type} : ∀ (f : Nat) (t : Tr α) (k : Nat) (x : Option α) (j : Nat), k < f → (Tr.setF f t k x).get j = if j = k then x else t.get j := by
  intro f
  induction f with
  | zero => intro t k x j h; omega
  | succ f ih =>
    intro t k x j h
    have half : ∀ i : Nat, i + 1 < f + 1 → i / 2 < f := fun i hi => by omega
    cases t with
    | nil =>
      cases k with
      | zero => cases j <;> simp [Tr.setF, Tr.get, Tr.get_nil]
      | succ k =>
        cases j with
        | zero => cases hb : Nat.beq (k % 2) 0 <;> simp [Tr.setF, Tr.get, hb]
        | succ j =>
          cases hb : Nat.beq (k % 2) 0 <;> cases hj : Nat.beq (j % 2) 0 <;> simp only [Tr.setF, Tr.get, hb, hj, cond_true, cond_false, Tr.get_nil]
          · rw [ih _ _ _ _ (half k h), Tr.get_nil]
            have h1 : k % 2 ≠ 0 := fun e => by rw [e] at hb; exact absurd hb (by decide)
            have h2 : j % 2 ≠ 0 := fun e => by rw [e] at hj; exact absurd hj (by decide)
            have : (j / 2 = k / 2) ↔ (j + 1 = k + 1) := by omega
            simp only [this]
          · have h1 : k % 2 ≠ 0 := fun e => by rw [e] at hb; exact absurd hb (by decide)
            have h2 : j % 2 = 0 := Nat.eq_of_beq_eq_true hj
            rw [if_neg (by omega)]
          · have h1 : k % 2 = 0 := Nat.eq_of_beq_eq_true hb
            have h2 : j % 2 ≠ 0 := fun e => by rw [e] at hj; exact absurd hj (by decide)
            rw [if_neg (by omega)]
          · rw [ih _ _ _ _ (half k h), Tr.get_nil]
            have h1 : k % 2 = 0 := Nat.eq_of_beq_eq_true hb
            have h2 : j % 2 = 0 := Nat.eq_of_beq_eq_true hj
            have : (j / 2 = k / 2) ↔ (j + 1 = k + 1) := by omega
            simp only [this]
    | node v l r =>
      cases k with
      | zero => cases j <;> simp [Tr.setF, Tr.get]
      | succ k =>
        cases j with
        | zero => cases hb : Nat.beq (k % 2) 0 <;> simp [Tr.setF, Tr.get, hb]
        | succ j =>
          cases hb : Nat.beq (k % 2) 0 <;> cases hj : Nat.beq (j % 2) 0 <;> simp only [Tr.setF, Tr.get, hb, hj, cond_true, cond_false]
          · rw [ih _ _ _ _ (half k h)]
            have h1 : k % 2 ≠ 0 := fun e => by rw [e] at hb; exact absurd hb (by decide)
            have h2 : j % 2 ≠ 0 := fun e => by rw [e] at hj; exact absurd hj (by decide)
            have : (j / 2 = k / 2) ↔ (j + 1 = k + 1) := by omega
            simp only [this]
          · have h1 : k % 2 ≠ 0 := fun e => by rw [e] at hb; exact absurd hb (by decide)
            have h2 : j % 2 = 0 := Nat.eq_of_beq_eq_true hj
            rw [if_neg (by omega)]
          · have h1 : k % 2 = 0 := Nat.eq_of_beq_eq_true hb
            have h2 : j % 2 ≠ 0 := fun e => by rw [e] at hj; exact absurd hj (by decide)
            rw [if_neg (by omega)]
          · rw [ih _ _ _ _ (half k h)]
            have h1 : k % 2 = 0 := Nat.eq_of_beq_eq_true hb
            have h2 : j % 2 = 0 := Nat.eq_of_beq_eq_true hj
            have : (j / 2 = k / 2) ↔ (j + 1 = k + 1) := by omega
            simp only [this]

theorem Tr.get_set {α : Type} (t : Tr α) (k : Nat) (x : Option α) (j : Nat) : (t.set k x).get j = if j = k then x else t.get j := Tr.get_setF _ _ _ _ _ (Nat.lt_succ_self k)
theorem Tr.get_set_same {α : Type} (t : Tr α) (k : Nat) (x : Option α) : (t.set k x).get k = x := by rw [Tr.get_set, if_pos rfl]
theorem Tr.get_set_ne {α : Type} (t : Tr α) {k j : Nat} (x : Option α) (h : j ≠ k) : (t.set k x).get j = t.get j := by rw [Tr.get_set, if_neg h]

/-- A block of the abstract heap. -/
inductive Blk where
  | row (ro : Bool) (z : Nat) (cs : List Value)
  | mp (ro : Bool) (es : List (Value × Value))

def Blk.ro : Blk → Bool
  | .row r _ _ => r
  | .mp r _ => r

/-- The abstract heap. -/
structure AH where
  m : Tr Blk
  next : Nat

def AH.get (h : AH) (i : Nat) : Option Blk := h.m.get i
def AH.put (h : AH) (i : Nat) (b : Blk) : AH := ⟨h.m.set i (some b), h.next⟩
def AH.kill (h : AH) (i : Nat) : AH := ⟨h.m.set i none, h.next⟩
def AH.add (h : AH) (b : Blk) : AH := ⟨h.m.set h.next (some b), h.next + 1⟩

/-- Types from here on are no program's: values that stand for a slice, or a pointer, by what it reads (rows that are never written any more). -/
def gT : Nat := 4294967296
/-- l elements from the cell 'off' on; 'ex': there is no room behind them. -/
def gslV (l off : Nat) (ex : Bool) (cs : List Value) : Value := .iface 4294967296 (.tuple ⟨.slice none l off :: .bool ex :: cs⟩)
def gptrV (off : Nat) (cs : List Value) : Value := .iface 4294967297 (.tuple ⟨.slice none 0 off :: cs⟩)

/-- Values of one cell that hold no address. -/
def plain1 : Value → Bool
  | .bool _ | .int _ _ | .string _ | .pointer none | .map none | .chan none | .nilFunc | .nilIface => true
  | .slice none n c => Nat.beq n 0 && Nat.beq c 0
  | _ => false

def plainV : Value → Bool
  | .agg cs => cs.toList.all plain1
  | .tuple cs => cs.toList.all plain1
  | .iface t v => !Nat.ble gT t && plain1 v
  | v => plain1 v

def one1 : Value → Bool
  | .agg _ | .tuple _ => false
  | _ => true

/-- What a computation yields that asks nothing of the world. -/
def pureOf : Sem Value → Option Value
  | .pure v => some v
  | _ => none

def evA (gl : Nat → Option Nat) (T : Tr Value) : Operand → Option Value
  | .tmp t => T.get t
  | .const v => bif plainV v then some v else none
  | .global g => (gl g).map fun id => .pointer (some ⟨id, 0, none⟩)
  | .func f => some (.func (.func f) #[] #[])

def evL (e : Operand → Option Value) : List Operand → Option (List Value)
  | [] => some []
  | x :: xs => match e x with
    | some v => match evL e xs with
      | some vs => some (v :: vs)
      | none => none
    | none => none

def evP (e : Operand → Option Value) : List (Nat × Operand) → Option (List (Nat × Value))
  | [] => some []
  | x :: xs => match e x.2 with
    | some v => match evP e xs with
      | some vs => some ((x.1, v) :: vs)
      | none => none
    | none => none

def szT (P : Program) (t : TypeId) : Option Nat := match P.info? t with | some i => some i.size | none => none
def aggT (P : Program) (t : TypeId) : Option Bool :=
  match P.underlying t with
  | some (.struct _) => some true
  | some (.array _ _) => some true
  | some _ => some false
  | none => none

def zeroA (P : Program) (t : TypeId) : Option Value :=
  match P.info? t with
  | some i => match i.zero with
    | some z => bif plainV z then some z else none
    | none => none
  | none => none

/-- Is a cell what its type says? -/
def kindOk (P : Program) (t : TypeId) (v : Value) : Bool := match P.underlying t with
  | some (.int kd) => (match v with
    | .int kd' _ => decide (kd' = kd)
    | _ => false)
  | some .bool => (match v with
    | .bool _ => true
    | _ => false)
  | some .string => (match v with
    | .string _ => true
    | _ => false)
  | _ => true
def cellA (P : Program) (t : TypeId) (cs : List Value) (off : Nat) : Option Value := match cs[off]? with
  | some v => bif kindOk P t v then some v else none
  | none => none
theorem cellA_some {P : Program} {t : TypeId} {cs : List Value} {off : Nat} {v : Value} (h : cellA P t cs off = some v) : cs[off]? = some v := by
  unfold cellA at h
  split at h
  · rename_i u hu
    cases hk : kindOk P t u with
    | true => rw [hk] at h; cases h; exact hu
    | false => rw [hk] at h; cases h
  · cases h

def loadA (P : Program) (h : AH) (t : TypeId) (b off : Nat) : Option Value :=
  match h.get b with
  | some (.row _ _ cs) => match aggT P t with
    | some true => match szT P t with
      | some n => bif Nat.ble (off + n) cs.length then some (.agg ⟨(cs.drop off).take n⟩) else none
      | none => none
    | some false => cellA P t cs off
    | none => none
  | _ => none

/-- A list, reckoned through before it is used (for the kernel). -/
def forceL {β : Type} : List Value → (List Value → β) → β
  | [], k => k []
  | a :: l, k => forceL l fun l' => k (a :: l')

theorem forceL_eq {β : Type} : ∀ (l : List Value) (k : List Value → β), forceL l k = k l
  | [], _ => rfl
  | a :: l, k => forceL_eq l _

def splice (cs : List Value) (off : Nat) (vs : List Value) : List Value := cs.take off ++ (vs ++ cs.drop (off + vs.length))

def writeA (h : AH) (b off : Nat) (vs : List Value) : Option AH :=
  match h.get b with
  | some (.row false z cs) => bif Nat.ble (off + vs.length) cs.length && vs.all one1 then forceL (splice cs off vs) fun l => some (h.put b (.row false z l)) else none
  | _ => none

theorem writeA_def (h : AH) (b off : Nat) (vs : List Value) : writeA h b off vs = match h.get b with
  | some (.row false z cs) => bif Nat.ble (off + vs.length) cs.length && vs.all one1 then some (h.put b (.row false z (splice cs off vs))) else none
  | _ => none := by unfold writeA; simp only [forceL_eq]

def storeA (P : Program) (h : AH) (t : TypeId) (b off : Nat) (v : Value) : Option AH :=
  match szT P t with
  | some n => bif Nat.beq v.cells.toList.length n then writeA h b off v.cells.toList else none
  | none => none

/-- Some cells of a row. -/
def readA (h : AH) (b off n : Nat) : Option (List Value) :=
  match h.get b with
  | some (.row _ _ cs) => bif Nat.ble (off + n) cs.length then forceL ((cs.drop off).take n) some else none
  | _ => none

theorem readA_def (h : AH) (b off n : Nat) : readA h b off n = match h.get b with
  | some (.row _ _ cs) => bif Nat.ble (off + n) cs.length then some ((cs.drop off).take n) else none
  | _ => none := by unfold readA; simp only [forceL_eq]

def strA (op : BinOp) (a b : ByteArray) : Option Value :=
  match op with
  | .add => if ((a.data.toList.length + b.data.toList.length : Nat) : Int) > IntKind.i64.max then none else some (.string ⟨⟨a.data.toList ++ b.data.toList⟩⟩)
  | .eql => some (.bool (a.data.toList == b.data.toList))
  | .neq => some (.bool (!(a.data.toList == b.data.toList)))
  | .lss => some (.bool (Op.bytesLess a.data.toList b.data.toList))
  | .leq => some (.bool (Op.bytesLess a.data.toList b.data.toList || a.data.toList == b.data.toList))
  | .gtr => some (.bool (!(Op.bytesLess a.data.toList b.data.toList || a.data.toList == b.data.toList)))
  | .geq => some (.bool (!(Op.bytesLess a.data.toList b.data.toList)))
  | _ => none

def partA (P : Program) (t : TypeId) (cs : List Value) (off : Nat) : Option Value :=
  match aggT P t with
  | some true => match szT P t with
    | some n => some (.agg ⟨(cs.drop off).take n⟩)
    | none => none
  | some false => cs[off]?
  | none => none

def aeqF (P : Program) (f : TypeId → Value → Value → Option Bool) (xs ys : List Value) : List Field → Option Bool
  | [] => some true
  | fd :: r =>
    if fd.name = "_" then aeqF P f xs ys r else
    match partA P fd.type xs fd.offset with
    | some a => match partA P fd.type ys fd.offset with
      | some b => match f fd.type a b with
        | some true => aeqF P f xs ys r
        | some false => some false
        | none => none
      | none => none
    | none => none

def aeqD (P : Program) : Nat → TypeId → Value → Value → Option Bool
  | 0, _, _, _ => none
  | d + 1, t, x, y =>
    match P.underlying t with
    | some .bool => match x, y with
      | .bool a, .bool b => some (a == b)
      | _, _ => none
    | some (.int _) => match x, y with
      | .int k a, .int k' b => if k = k' then some (a == b) else none
      | _, _ => none
    | some .string => match x, y with
      | .string a, .string b => some (a.data.toList == b.data.toList)
      | _, _ => none
    | some (.pointer _) => match x, y with
      | .pointer none, .pointer b => some b.isNone
      | .pointer (some _), .pointer none => some false
      | _, _ => none
    | some (.slice _) => match x, y with
      | .slice none _ _, .slice b _ _ => some b.isNone
      | .slice (some _) _ _, .slice none _ _ => some false
      | .iface s (.tuple ⟨.slice none l _ :: .bool _ :: _⟩), .slice none _ _ => bif Nat.beq s 4294967296 then (bif Nat.beq l 0 then none else some false) else none
      | _, _ => none
    | some (.map _ _) => match x, y with
      | .map none, .map b => some b.isNone
      | .map (some _), .map none => some false
      | _, _ => none
    | some (.func _ _ _) => match x, y with
      | .nilFunc, .nilFunc => some true
      | .nilFunc, .func _ _ _ => some false
      | .func _ _ _, .nilFunc => some false
      | _, _ => none
    | some (.interface _) => match x, y with
      | .nilIface, .nilIface => some true
      | .nilIface, .iface t _ => bif Nat.ble gT t then none else some false
      | .iface t _, .nilIface => bif Nat.ble gT t then none else some false
      | _, _ => none
    | some (.struct fs) => match x, y with
      | .agg xs, .agg ys => bif P.stoodInHeld t then none else aeqF P (aeqD P d) xs.toList ys.toList fs.toList
      | _, _ => none
    | _ => none

def intA (op : BinOp) (k : IntKind) (a b : Int) : Option Value :=
  match op with
  | .add => pureOf (Op.intArith .add k a b)
  | .sub => pureOf (Op.intArith .sub k a b)
  | .mul => pureOf (Op.intArith .mul k a b)
  | .quo => pureOf (Op.intDiv .quo k a b)
  | .rem => pureOf (Op.intDiv .rem k a b)
  | .and => pureOf (Op.intBits .and k a b)
  | .or => pureOf (Op.intBits .or k a b)
  | .xor => pureOf (Op.intBits .xor k a b)
  | .andNot => pureOf (Op.intBits .andNot k a b)
  | .shl => pureOf (Op.shift .shl k a k b)
  | .shr => pureOf (Op.shift .shr k a k b)
  | .eql => pureOf (Op.intCmp .eql a b)
  | .neq => pureOf (Op.intCmp .neq a b)
  | .lss => pureOf (Op.intCmp .lss a b)
  | .leq => pureOf (Op.intCmp .leq a b)
  | .gtr => pureOf (Op.intCmp .gtr a b)
  | .geq => pureOf (Op.intCmp .geq a b)

/-- Is a value a key that may be asked for, and nothing more? -/
def keyF (P : Program) (f : TypeId → Value → Bool) (cs : List Value) : List Field → Bool
  | [] => true
  | fd :: r => (match partA P fd.type cs fd.offset with
    | some a => f fd.type a
    | none => false) && keyF P f cs r

def keyA (P : Program) : Nat → TypeId → Value → Bool
  | 0, _, _ => false
  | d + 1, t, v => match P.underlying t with
    | some .bool => true
    | some (.int _) => true
    | some .string => true
    | some (.struct fs) => match v with
      | .agg cs => keyF P (keyA P d) cs.toList fs.toList
      | _ => false
    | _ => false

/-- Where a map has a key. -/
def findA (P : Program) (t : TypeId) (k : Value) : List (Value × Value) → Nat → Option (Option (Nat × Value))
  | [], _ => some none
  | e :: es, i => match aeqD P 10000 t k e.1 with
    | some true => some (some (i, e.2))
    | some false => findA P t k es (i + 1)
    | none => none

def mapEs (h : AH) : Value → Option (List (Value × Value))
  | .map none => some []
  | .map (some r) => match h.get r with
    | some (.mp _ es) => some es
    | _ => none
  | _ => none

def lookupA (P : Program) (h : AH) (t : TypeId) (m k : Value) (ok : Bool) : Option Value :=
  match P.underlying t with
  | some (.map kt e) => match mapEs h m with
    | some es => bif keyA P 10000 kt k then (match findA P kt k es 0 with
      | some (some (_, v)) => bif kindOk P e v then some (bif ok then .tuple ⟨[v, .bool true]⟩ else v) else none
      | some none => match zeroA P e with
        | some z => some (bif ok then .tuple ⟨[z, .bool false]⟩ else z)
        | none => none
      | none => none) else none
    | none => none
  | _ => none

/-- Two keys that are surely one. -/
def sameA : Value → Value → Bool
  | .string a, .string b => a.data.toList == b.data.toList
  | .int j a, .int k b => j == k && a == b
  | .bool a, .bool b => a == b
  | _, _ => false

def mapPutA (P : Program) (h : AH) (t : TypeId) (m k v : Value) : Option AH :=
  match P.underlying t with
  | some (.map kt _) => match m with
    | .map (some r) => match h.get r with
      | some (.mp false es) => bif keyA P 10000 kt k then (match findA P kt k es 0 with
        | some (some (i, _)) => match es[i]? with
          | some e => bif sameA e.1 k then some (h.put r (.mp false (es.set i (k, v)))) else none
          | none => none
        | some none => some (h.put r (.mp false (es ++ [(k, v)])))
        | none => none) else none
      | _ => none
    | _ => none
  | _ => none

/-- May two such values be held against each other? ('cst': one of the two operands is a constant.) -/
def eqOk (P : Program) (t : TypeId) (cst : Bool) : Value → Value → Bool
  | .nilIface, .nilIface => cst
  | .agg _, .agg _ => !P.eqGuardType P.depth t
  | .int _ _, .int _ _ => false
  | .string _, .string _ => false
  | _, _ => true

def binA (P : Program) (op : BinOp) (t : TypeId) (cst : Bool) (x y : Value) : Option Value :=
  match x, y with
  | .int k a, .int k' b => match op with
    | .shl => pureOf (Op.shift .shl k a k' b)
    | .shr => pureOf (Op.shift .shr k a k' b)
    | op => if k = k' then intA op k a b else none
  | .string a, .string b => strA op a b
  | x, y => bif eqOk P t cst x y then (match op with
    | .eql => match aeqD P 10000 t x y with
      | some r => some (.bool r)
      | none => none
    | .neq => match aeqD P 10000 t x y with
      | some r => some (.bool (!r))
      | none => none
    | _ => none) else none

def unA (op : UnOp) (x : Value) : Option Value :=
  match op, x with
  | .neg, .int k n => pureOf (Op.intArith .sub k 0 n)
  | .xor, .int k n => pureOf (Op.intBits .xor k (if k.signed then -1 else k.max) n)
  | .not, .bool b => some (.bool !b)
  | _, _ => none

/-- The bytes of cells. -/
def bytesOf : List Value → Option (List UInt8)
  | [] => some []
  | .int .u8 n :: r => match bytesOf r with
    | some l => some (UInt8.ofNat n.toNat :: l)
    | none => none
  | _ => none

def byteCells (l : List UInt8) : List Value := l.map fun b => .int .u8 b.toNat

def isU8 (P : Program) (t : TypeId) : Bool := match P.underlying t with | some (.int .u8) => true | _ => false

def convA (P : Program) (h : AH) (src dst : TypeId) (x : Value) : Option (Value × AH) :=
  match P.underlying src with
  | none => none
  | some us => match P.underlying dst with
    | some (.int k) => match x with
      | .int _ n => some (.int k (k.wrap n), h)
      | _ => none
    | some .string => match x with
      | .string s => some (.string s, h)
      | .slice none n c => match us with
        | .slice e => bif isU8 P e then some (.string ⟨⟨[]⟩⟩, h) else none
        | _ => none
      | .slice (some ⟨b, off, none⟩) n c => match us with
        | .slice e => bif isU8 P e then (match readA h b off n with
          | some cs => match bytesOf cs with
            | some l => some (.string ⟨⟨l⟩⟩, h)
            | none => none
          | none => none) else none
        | _ => none
      | _ => none
    | some (.slice e) => match x with
      | .string s => bif isU8 P e then some (.slice (some ⟨h.next, 0, none⟩) s.data.toList.length 1, h.add (.row false 1 (byteCells s.data.toList))) else none
      | .slice (some ⟨b, off, none⟩) n c => match us with
        | .slice _ => bif isU8 P e && Nat.beq src dst then (match h.get b with
          | some (.row false z cs) => bif Nat.blt 0 n then some (.slice (some ⟨b, off, none⟩) n c, h) else none
          | _ => none) else none
        | _ => none
      | _ => none
    | _ => none

def bnd : Option Value → Nat → Option Nat
  | none, d => some d
  | some (.int _ i), _ => if 0 ≤ i then some i.toNat else none
  | some _, _ => none

def evO (e : Operand → Option Value) : Option Operand → Option (Option Value)
  | none => some none
  | some x => match e x with
    | some v => some (some v)
    | none => none

/-- s[lo:hi:mx] of a slice, a string, an array behind a pointer. 'c' of a slice value: twice its capacity, and one more if there may be room behind it. -/
def sliceA (P : Program) (t : TypeId) (x : Value) (lo hi mx : Option Value) : Option Value :=
  match P.underlying t with
  | some .string => match x with
    | .string s => bif mx.isSome then none else match bnd lo 0 with
      | some l => match bnd hi s.data.toList.length with
        | some r => bif Nat.ble l r && Nat.ble r s.data.toList.length then some (.string ⟨⟨(s.data.toList.drop l).take (r - l)⟩⟩) else none
        | none => none
      | none => none
    | _ => none
  | some (.slice e) => match szT P e with
    | none => none
    | some z => match x with
      | .slice none n c => match bnd lo 0 with
        | some l => match bnd hi n with
          | some r => match bnd mx 0 with
            | some m => bif Nat.beq n 0 && Nat.beq c 0 && Nat.beq l 0 && Nat.beq r 0 && Nat.beq m 0 && (hi.isSome || !mx.isSome) then some (.slice none 0 0) else none
            | none => none
          | none => none
        | none => none
      | .slice (some ⟨b, off, none⟩) n c => match bnd lo 0 with
        | some l => match bnd hi n with
          | some r => match mx with
            | none =>
              bif Nat.ble l r && Nat.ble r (n + c / 2) then
                (bif Nat.beq (c % 2) 0 then some (.slice (some ⟨b, bif Nat.beq l (n + c / 2) then off else off + l * z, none⟩) (r - l) (c + 2 * n - 2 * r))
                 else some (.slice (some ⟨b, off + l * z, none⟩) (r - l) (c + 2 * n - 2 * r)))
              else none
            | some mv => match bnd (some mv) 0 with
              | some m =>
                bif Nat.ble l r && Nat.ble r m && Nat.ble m (n + c / 2) && hi.isSome && !(Nat.beq n 0 && Nat.beq c 1) then
                  some (.slice (some ⟨b, bif Nat.beq l m then off else off + l * z, none⟩) (r - l) (2 * (m - r)))
                else none
              | none => none
          | none => none
        | none => none
      | _ => none
  | some (.array n e) => match szT P e with
    | none => none
    | some z => match x with
      | .pointer (some ⟨b, off, none⟩) => match bnd lo 0 with
        | some l => match bnd hi n with
          | some r => bif mx.isSome then none else
            bif Nat.ble l r && Nat.ble r n then some (.slice (some ⟨b, bif Nat.beq n l then off else off + l * z, none⟩) (r - l) (2 * (n - r))) else none
          | none => none
        | none => none
      | _ => none
  | _ => none

def fieldsT (P : Program) (t : TypeId) : Option (List Field) := match P.underlying t with | some (.struct fs) => some fs.toList | _ => none

def fieldAddrA (P : Program) (t : TypeId) (x : Value) (i : Nat) : Option Value :=
  match fieldsT P t with
  | some fs => match fs[i]? with
    | some f => match szT P f.type with
      | some n => match x with
        | .pointer (some ⟨b, off, none⟩) => bif Nat.beq n 0 then none else some (.pointer (some ⟨b, off + f.offset, none⟩))
        | _ => none
      | none => none
    | none => none
  | none => none

def fieldA (P : Program) (t : TypeId) (x : Value) (i : Nat) : Option Value :=
  match fieldsT P t with
  | some fs => match fs[i]? with
    | some f => match x with
      | .agg cs => partA P f.type cs.toList f.offset
      | _ => none
    | none => none
  | none => none

def indexAddrA (P : Program) (t : TypeId) (x i : Value) : Option Value :=
  match i with
  | .int _ i => match P.underlying t with
    | some (.slice e) => match szT P e with
      | some z => match x with
        | .slice (some ⟨b, off, none⟩) n _ => if 0 ≤ i ∧ i < n then some (.pointer (some ⟨b, off + i.toNat * z, none⟩)) else none
        | _ => none
      | none => none
    | some (.array n e) => match szT P e with
      | some z => match x with
        | .pointer (some ⟨b, off, none⟩) => if 0 ≤ i ∧ i < n then some (.pointer (some ⟨b, off + i.toNat * z, none⟩)) else none
        | _ => none
      | none => none
    | _ => none
  | _ => none

def indexA (P : Program) (t : TypeId) (x i : Value) : Option Value :=
  match i with
  | .int _ i => match P.underlying t with
    | some .string => match x with
      | .string s => if 0 ≤ i then (match s.data.toList[i.toNat]? with
        | some b => some (.int .u8 b.toNat)
        | none => none) else none
      | _ => none
    | some (.array n e) => match szT P e with
      | some z => match x with
        | .agg cs => if 0 ≤ i ∧ i < n then partA P e cs.toList (i.toNat * z) else none
        | _ => none
      | none => none
    | _ => none
  | _ => none

/-- n rows of cells. -/
def repA (n : Nat) (z : List Value) : List Value := (List.replicate n z).flatten

def makeSliceA (P : Program) (h : AH) (t : TypeId) (l c : Value) : Option (Value × AH) :=
  match P.underlying t with
  | some (.slice e) => match P.info? e with
    | some i => match l, c with
      | .int _ l, .int _ c =>
        if 0 ≤ l ∧ l ≤ c ∧ c ≤ 4294967296 ∧ i.bytes ≤ 65536 then
          match zeroA P e with
          | some z => bif Nat.beq z.cells.toList.length i.size then
              some (.slice (some ⟨h.next, 0, none⟩) l.toNat (2 * (c.toNat - l.toNat)), h.add (.row false i.size (repA c.toNat z.cells.toList))) else none
          | none => none
        else none
      | _, _ => none
    | none => none
  | _ => none

def fillA (place : Nat → Option (Nat × Nat)) : List Value → List (Nat × Value) → Option (List Value)
  | cells, [] => some cells
  | cells, (i, v) :: r =>
    match place i with
    | none => none
    | some (off, size) => bif Nat.beq v.cells.toList.length size && Nat.ble (off + size) cells.length then fillA place (splice cells off v.cells.toList) r else none

def placeF (P : Program) (fs : List Field) (i : Nat) : Option (Nat × Nat) :=
  match fs[i]? with
  | some f => match szT P f.type with
    | some n => some (f.offset, n)
    | none => none
  | none => none

def allSz (P : Program) : List Field → Bool
  | [] => true
  | f :: r => (szT P f.type).isSome && allSz P r

def buildA (P : Program) (t : TypeId) (ps : List (Nat × Value)) : Option Value :=
  match zeroA P t with
  | none => none
  | some z => match P.underlying t with
    | some (.struct fs) => bif allSz P fs.toList then (match fillA (placeF P fs.toList) z.cells.toList ps with
      | some cs => some (.agg ⟨cs⟩)
      | none => none) else none
    | some (.array _ e) => match szT P e with
      | some n => match fillA (fun i => some (i * n, n)) z.cells.toList ps with
        | some cs => some (.agg ⟨cs⟩)
        | none => none
      | none => none
    | _ => none

def buildSliceA (P : Program) (h : AH) (t : TypeId) (len : Nat) (ps : List (Nat × Value)) : Option (Value × AH) :=
  match P.underlying t with
  | some (.slice e) => match szT P e with
    | some n => bif Nat.ble (len * n) 16777216 then
      (match zeroA P e with
      | some z => bif Nat.beq z.cells.toList.length n then
          (match fillA (fun i => some (i * n, n)) (repA len z.cells.toList) ps with
          | some cs => some (.slice (some ⟨h.next, 0, none⟩) len 0, h.add (.row false n cs))
          | none => none) else none
      | none => none) else none
    | none => none
  | _ => none

/-- The cells of what is appended or copied. -/
def srcA (h : AH) (z : Nat) : Value → Option (Nat × List Value)
  | .slice none n _ => bif Nat.beq n 0 then some (0, []) else none
  | .slice (some ⟨b, off, none⟩) n _ => match h.get b with
    | some _ => (match readA h b off (n * z) with
      | some cs => some (n, cs)
      | none => none)
    | none => bif Nat.beq n 0 then some (0, []) else none
  | .string s => bif Nat.beq z 1 then some (s.data.toList.length, byteCells s.data.toList) else none
  | .iface t (.tuple ⟨.slice none l off :: .bool ex :: cs⟩) => bif Nat.beq t 4294967296 then (bif Nat.ble (off + l * z) cs.length then some (l, (cs.drop off).take (l * z)) else none) else none
  | _ => none

def appendA (P : Program) (h : AH) (ts : List TypeId) (s x : Value) : Option (Value × AH) :=
  match ts with
  | tS :: tX :: _ => match P.underlying tS with
    | some (.slice e) => match P.info? e with
      | none => none
      | some i => match P.underlying tX with
        | none => none
        | some (.int _) => none
        | some _ => match srcA h i.size x with
          | none => none
          | some (n, new) => match zeroA P e with
            | none => none
            | some zv => match s with
              | .slice none 0 0 =>
                bif Nat.beq n 0 then some (.slice none 0 0, h)
                else bif Nat.ble n 4294967296 && Nat.ble i.bytes 32768 && Nat.beq zv.cells.toList.length i.size then some (.slice (some ⟨h.next, 0, none⟩) n 1, h.add (.row false i.size new)) else none
              | .slice (some ⟨b, off, none⟩) l c =>
                bif Nat.ble n (c / 2) then
                  (bif Nat.beq n 0 then some (.slice (some ⟨b, off, none⟩) l c, h) else
                  match writeA h b (off + l * i.size) new with
                  | some h' => some (.slice (some ⟨b, off, none⟩) (l + n) (c - 2 * n), h')
                  | none => none)
                else bif Nat.ble (l + n) 4294967296 && Nat.ble i.bytes 32768 && Nat.beq zv.cells.toList.length i.size then
                  (match readA h b off (l * i.size) with
                  | none => none
                  | some old => bif Nat.beq (c % 2) 0 then
                      forceL (old ++ new) fun l' => some (.slice (some ⟨h.next, 0, none⟩) (l + n) 1, h.add (.row false i.size l'))
                    else match h.get b with
                      | some (.row false z cs) => bif Nat.beq z i.size && Nat.beq (off + (l + c / 2) * z) cs.length && !Nat.beq z 0 && new.all one1 then
                          forceL (old ++ new) fun l' => some (.slice (some ⟨h.next, 0, none⟩) (l + n) 1, (h.kill b).add (.row false i.size l')) else none
                      | _ => none)
                else none
              | .iface t (.tuple ⟨.slice none l off :: .bool ex :: cs⟩) => bif Nat.beq t 4294967296 && ex then (bif Nat.ble (off + l * i.size) cs.length then (bif Nat.beq n 0 then some (gslV l off true cs, h) else
                  bif Nat.ble (l + n) 4294967296 && Nat.ble i.bytes 32768 && Nat.beq zv.cells.toList.length i.size then
                    some (.slice (some ⟨h.next, 0, none⟩) (l + n) 1, h.add (.row false i.size ((cs.drop off).take (l * i.size) ++ new))) else none) else none) else none
              | _ => none
    | _ => none
  | _ => none

def copyA (P : Program) (h : AH) (ts : List TypeId) (d x : Value) : Option (Value × AH) :=
  match ts with
  | tD :: _ => match P.underlying tD with
    | some (.slice e) => match szT P e with
      | none => none
      | some z => match d with
        | .slice (some ⟨b, off, none⟩) dl _ =>
          match x with
          | .string s => bif Nat.beq z 1 then (match writeA h b off ((byteCells s.data.toList).take dl) with
            | some h' => some (.int .i64 (Nat.min s.data.toList.length dl : Nat), h')
            | none => none) else none
          | .slice none 0 _ => some (.int .i64 0, h)
          | .slice (some ⟨b2, off2, none⟩) n _ => match readA h b2 off2 (Nat.min n dl * z) with
            | none => none
            | some cs => bif Nat.beq (Nat.min n dl) 0 then some (.int .i64 0, h) else match writeA h b off cs with
              | some h' => some (.int .i64 (Nat.min n dl : Nat), h')
              | none => none
          | _ => none
        | _ => none
    | _ => none
  | _ => none

def lenA (P : Program) (h : AH) (ts : List TypeId) (x : Value) : Option Value :=
  match ts with
  | t :: _ => match P.underlying t with
    | some .string => match x with
      | .string s => some (.int .i64 (s.data.toList.length : Nat))
      | _ => none
    | some (.slice _) => match x with
      | .slice _ n _ => some (.int .i64 n)
      | _ => none
    | some (.array n _) => some (.int .i64 n)
    | some (.map _ _) => match x with
      | .map none => some (.int .i64 0)
      | .map (some r) => match h.get r with
        | some (.mp _ es) => some (.int .i64 (es.length : Nat))
        | _ => none
      | _ => none
    | _ => none
  | _ => none

def builtinA (P : Program) (h : AH) (b : Builtin) (ts : List TypeId) (args : List Value) : Option (Value × AH) :=
  match b with
  | .len => match args with
    | x :: _ => match lenA P h ts x with
      | some v => some (v, h)
      | none => none
    | _ => none
  | .append => match args with
    | s :: x :: _ => appendA P h ts s x
    | _ => none
  | .copy => match args with
    | d :: x :: _ => copyA P h ts d x
    | _ => none
  | .cap => match ts with
    | t :: _ => match P.underlying t with
      | some (.slice _) => match args with
        | [.slice _ l c] => bif Nat.beq (c % 2) 0 then some (.int .i64 (l + c / 2 : Nat), h) else none
        | _ => none
      | _ => none
    | _ => none
  | .unsafeSliceData => match args with
    | [.slice none _ _] => some (.pointer none, h)
    | _ => none
  | .unsafeString => match ts with
    | _ :: _ => match args with
      | [.pointer none, .int _ 0] => some (.string ⟨⟨[]⟩⟩, h)
      | _ => none
    | _ => none
  | .max => match args with
    | [.int k x, .int _ y] => some (.int k (if y > x then y else x), h)
    | _ => none
  | .min => match args with
    | [.int k x, .int _ y] => some (.int k (if y < x then y else x), h)
    | _ => none
  | _ => none

def isConst : Operand → Bool
  | .const _ => true
  | _ => false

/-- An operation that calls no function of the program. -/
def opA (P : Program) (ev : Operand → Option Value) (h : AH) (op : Op) : Option (Value × AH) :=
  match op with
  | .move x | .assign x => match ev x with
    | some v => some (v, h)
    | none => none
  | .pick c a b => match ev c with
    | some (.bool true) => match ev a with
      | some v => some (v, h)
      | none => none
    | some (.bool false) => match ev b with
      | some v => some (v, h)
      | none => none
    | _ => none
  | .alloc t => match zeroA P t with
    | some z => some (.pointer (some ⟨h.next, 0, none⟩), h.add (.row false 1 z.cells.toList))
    | none => none
  | .box t x => match ev x with
    | some v => some (.pointer (some ⟨h.next, 0, none⟩), h.add (.row false 1 v.cells.toList))
    | none => none
  | .build t ps => match evP ev ps.toList with
    | some l => match buildA P t l with
      | some v => some (v, h)
      | none => none
    | none => none
  | .buildSlice t len ps => match evP ev ps.toList with
    | some l => buildSliceA P h t len l
    | none => none
  | .load t a => match ev a with
    | some (.pointer (some ⟨b, off, none⟩)) => match loadA P h t b off with
      | some v => some (v, h)
      | none => none
    | _ => none
  | .store t a x => match ev a with
    | some (.pointer (some ⟨b, off, none⟩)) => match ev x with
      | some v => match storeA P h t b off v with
        | some h' => some (undef, h')
        | none => none
      | none => none
    | _ => none
  | .nilCheck x => match ev x with
    | some (.pointer (some a)) => some (.pointer (some a), h)
    | some (.func (.func f) a b) => some (.func (.func f) a b, h)
    | _ => none
  | .binOp op t x y _ => match ev x with
    | some a => match ev y with
      | some b => match binA P op t (isConst x || isConst y) a b with
        | some v => some (v, h)
        | none => none
      | none => none
    | none => none
  | .unOp op _ x => match ev x with
    | some a => match unA op a with
      | some v => some (v, h)
      | none => none
    | none => none
  | .convert s d x => match ev x with
    | some v => convA P h s d v
    | none => none
  | .makeInterface t x => match ev x with
    | some v => match P.underlying t with
      | some (.interface _) => none
      | some _ => bif Nat.ble gT t then none else some (.iface t v, h)
      | none => none
    | none => none
  | .makeFunc fn first cap => match evL ev first.toList with
    | some l => match evL ev cap.toList with
      | some l' => some (.func fn ⟨l⟩ ⟨l'⟩, h)
      | none => none
    | none => none
  | .makeSlice t l c => match ev l with
    | some a => match ev c with
      | some b => makeSliceA P h t a b
      | none => none
    | none => none
  | .slice t x lo hi mx => match ev x with
    | some v => match evO ev lo with
      | some l => match evO ev hi with
        | some r => match evO ev mx with
          | some m => match sliceA P t v l r m with
            | some u => some (u, h)
            | none => none
          | none => none
        | none => none
      | none => none
    | none => none
  | .fieldAddr t x i => match ev x with
    | some v => match fieldAddrA P t v i with
      | some u => some (u, h)
      | none => none
    | none => none
  | .field t x i => match ev x with
    | some v => match fieldA P t v i with
      | some u => some (u, h)
      | none => none
    | none => none
  | .indexAddr t x i => match ev x with
    | some v => match ev i with
      | some j => match indexAddrA P t v j with
        | some u => some (u, h)
        | none => none
      | none => none
    | none => none
  | .index t x i => match ev x with
    | some v => match ev i with
      | some j => match indexA P t v j with
        | some u => some (u, h)
        | none => none
      | none => none
    | none => none
  | .makeMap _ none => some (.map (some h.next), h.add (.mp false []))
  | .makeMap t (some x) => match P.underlying t with
    | some (.map _ _) => match ev x with
      | some (.int _ _) => some (.map (some h.next), h.add (.mp false []))
      | _ => none
    | _ => none
  | .lookup t x i ok => match ev x with
    | some m => match ev i with
      | some k => match lookupA P h t m k ok with
        | some u => some (u, h)
        | none => none
      | none => none
    | none => none
  | .mapUpdate t x i y => match ev x with
    | some m => match ev i with
      | some k => match ev y with
        | some v => match mapPutA P h t m k v with
          | some h' => some (undef, h')
          | none => none
        | none => none
      | none => none
    | none => none
  | .extract x i => match ev x with
    | some (.tuple vs) => match vs.toList[i]? with
      | some v => some (v, h)
      | none => none
    | _ => none
  | .call { callee := .builtin b, args, argTypes } => match evL ev args.toList with
    | some l => builtinA P h b argTypes.toList l
    | none => none
  | _ => none

/-- A row's cell of a kind, where it may not be known which: its kind is told, its number not reckoned. -/
def isInt (kd : IntKind) (cs : List Value) (off : Nat) : Bool := match cs[off]? with
  | some (.int kd' _) => decide (kd' = kd)
  | _ => false
def intAt (cs : List Value) (off : Nat) : Int := match cs[off]? with
  | some (.int _ x) => x
  | _ => 0
def isBool (cs : List Value) (off : Nat) : Bool := match cs[off]? with
  | some (.bool _) => true
  | _ => false
def boolAt (cs : List Value) (off : Nat) : Bool := match cs[off]? with
  | some (.bool b) => b
  | _ => false
def isStr (cs : List Value) (off : Nat) : Bool := match cs[off]? with
  | some (.string _) => true
  | _ => false
def strAt (cs : List Value) (off : Nat) : ByteArray := match cs[off]? with
  | some (.string s) => s
  | _ => ⟨#[]⟩

def isGsl (cs : List Value) (off : Nat) : Bool := match cs[off]? with
  | some (.iface t (.tuple ⟨.slice none _ _ :: .bool _ :: _⟩)) => Nat.beq t 4294967296
  | _ => false
def gL (cs : List Value) (off : Nat) : Nat := match cs[off]? with
  | some (.iface _ (.tuple ⟨.slice _ l _ :: _⟩)) => l
  | _ => 0
def gO (cs : List Value) (off : Nat) : Nat := match cs[off]? with
  | some (.iface _ (.tuple ⟨.slice _ _ o :: _⟩)) => o
  | _ => 0
def gX (cs : List Value) (off : Nat) : Bool := match cs[off]? with
  | some (.iface _ (.tuple ⟨_ :: .bool b :: _⟩)) => b
  | _ => false
def gC (cs : List Value) (off : Nat) : List Value := match cs[off]? with
  | some (.iface _ (.tuple ⟨_ :: _ :: r⟩)) => r
  | _ => []
def isBytes : List Value → Bool
  | [] => true
  | .int .u8 _ :: r => isBytes r
  | _ :: _ => false
def bytesAt : List Value → List UInt8
  | [] => []
  | .int _ x :: r => UInt8.ofNat x.toNat :: bytesAt r
  | _ :: r => bytesAt r

/-- What a cell is, by its type. -/
inductive CKind where
  | int (k : IntKind)
  | bool
  | str
  | slc

/-- The cells of a type's values (numbers, truth values, texts, slices, structs of such). -/
def kindsF (f : TypeId → Option (List CKind)) : List Field → Option (List CKind)
  | [] => some []
  | fd :: r => match f fd.type with
    | some l => match kindsF f r with
      | some m => some (l ++ m)
      | none => none
    | none => none
def kindsT (P : Program) : Nat → TypeId → Option (List CKind)
  | 0, _ => none
  | d + 1, t => match P.underlying t with
    | some (.int k) => some [.int k]
    | some .bool => some [.bool]
    | some .string => some [.str]
    | some (.slice _) => some [.slc]
    | some (.struct fs) => kindsF (kindsT P d) fs.toList
    | _ => none
def cellOk : CKind → List Value → Nat → Bool
  | .int k, cs, off => isInt k cs off
  | .bool, cs, off => isBool cs off
  | .str, cs, off => isStr cs off
  | .slc, cs, off => isGsl cs off
def cellV : CKind → List Value → Nat → Value
  | .int k, cs, off => .int k (intAt cs off)
  | .bool, cs, off => .bool (boolAt cs off)
  | .str, cs, off => .string (strAt cs off)
  | .slc, cs, off => gslV (gL cs off) (gO cs off) (gX cs off) (gC cs off)
def cellsOk : List CKind → List Value → Nat → Bool
  | [], _, _ => true
  | k :: r, cs, off => cellOk k cs off && cellsOk r cs (off + 1)
def cellsV : List CKind → List Value → Nat → List Value
  | [], _, _ => []
  | k :: r, cs, off => cellV k cs off :: cellsV r cs (off + 1)

/-- What an operation on such values comes to: it is none; it can't be told; a value, under a test. -/
inductive GR where
  | no
  | bad
  | ok (b : Bool) (v : Value)

/-- A pointer into a row that is never written any more; a slice of it. -/
def asP : Option Value → Option (Nat × List Value)
  | some (.iface t (.tuple ⟨.slice none 0 off :: cs⟩)) => bif Nat.beq t 4294967297 then some (off, cs) else none
  | _ => none
def asS : Option Value → Option (Nat × Nat × Bool × List Value)
  | some (.iface t (.tuple ⟨.slice none l off :: .bool ex :: cs⟩)) => bif Nat.beq t 4294967296 then some (l, off, ex, cs) else none
  | _ => none

def gload (P : Program) (t : TypeId) (cs : List Value) (off : Nat) : GR :=
  match kindsT P 20 t with
  | some ks => match aggT P t with
    | some true => match szT P t with
      | some n => bif Nat.beq n ks.length then .ok (cellsOk ks cs off) (.agg ⟨cellsV ks cs off⟩) else .bad
      | none => .bad
    | some false => match ks with
      | [k] => .ok (cellOk k cs off) (cellV k cs off)
      | _ => .bad
    | none => .bad
  | none => .bad

def bndG (ev : Operand → Option Value) (d : Nat) : Option Operand → Option (Bool × Nat)
  | none => some (true, d)
  | some x => match ev x with
    | some (.int _ i) => some (decide (0 ≤ i), i.toNat)
    | _ => none

def opG (P : Program) (ev : Operand → Option Value) (op : Op) : GR :=
  match op with
  | .load t a => match asP (ev a) with
    | some (off, cs) => gload P t cs off
    | none => .no
  | .nilCheck x => match asP (ev x) with
    | some (off, cs) => .ok true (gptrV off cs)
    | none => .no
  | .fieldAddr t x i => match asP (ev x) with
    | some (off, cs) => match fieldsT P t with
      | some fs => match fs[i]? with
        | some f => match szT P f.type with
          | some n => .ok (!Nat.beq n 0) (gptrV (off + f.offset) cs)
          | none => .bad
        | none => .bad
      | none => .bad
    | none => .no
  | .indexAddr t x i => match asS (ev x) with
    | some (l, off, _, cs) => match ev i with
      | some (.int _ j) => match P.underlying t with
        | some (.slice e) => match szT P e with
          | some z => .ok (decide (0 ≤ j) && decide (j < l)) (gptrV (off + j.toNat * z) cs)
          | none => .bad
        | _ => .bad
      | _ => .bad
    | none => .no
  | .slice t x lo hi mx => match asS (ev x) with
    | some (l, off, ex, cs) => match P.underlying t with
      | some (.slice e) => match szT P e with
        | some z => match bndG ev 0 lo with
          | some (b1, a) => match bndG ev l hi with
            | some (b2, r) => match mx with
              | none => .ok (b1 && b2 && Nat.ble a r && Nat.ble r l) (gslV (r - a) (off + a * z) (ex && Nat.beq r l) cs)
              | some m => match bndG ev 0 (some m) with
                | some (b3, k) => .ok (b1 && b2 && b3 && Nat.ble a r && Nat.beq r k && Nat.ble k l && hi.isSome) (gslV (r - a) (off + a * z) true cs)
                | none => .bad
            | none => .bad
          | none => .bad
        | none => .bad
      | _ => .bad
    | none => .no
  | .convert s d x => match asS (ev x) with
    | some (l, off, _, cs) => match P.underlying s with
      | some (.slice e) => match P.underlying d with
        | some .string => bif isU8 P e then .ok (Nat.ble (off + l) cs.length && isBytes ((cs.drop off).take l)) (.string ⟨⟨bytesAt ((cs.drop off).take l)⟩⟩) else .bad
        | _ => .bad
      | _ => .bad
    | none => .no
  | .call { callee := .builtin .len, args, argTypes } => match args.toList with
    | x :: _ => match asS (ev x) with
      | some (l, _) => match argTypes.toList with
        | t :: _ => match P.underlying t with
          | some (.slice _) => .ok true (.int .i64 l)
          | _ => .bad
        | _ => .bad
      | none => .no
    | _ => .no
  | _ => .no

/-- The state of a frame. -/
structure St where
  T : Tr Value
  n : Nat
  h : AH
  ds : List (FuncId × List Value)

def putA (σ : St) (dst : Option Tmp) (v : Value) : Option St :=
  match σ with
  | ⟨T, n, h, ds⟩ => match dst with
    | none => some ⟨T, n, h, ds⟩
    | some d => bif Nat.blt d n then some ⟨T.set d (some v), n, h, ds⟩ else none
theorem putA_def (σ : St) (dst : Option Tmp) (v : Value) : putA σ dst v = match dst with
  | none => some σ
  | some d => bif Nat.blt d σ.n then some { σ with T := σ.T.set d (some v) } else none := rfl

/-- Whom a value calls, with what it brings. -/
def calleeA (P : Program) (f : Value) (args : List Value) : Option (FuncId × List Value) :=
  match f with
  | .func (.func g) first cap => some (g, first.toList ++ (args ++ cap.toList))
  | _ => none

/-- What an operation comes to: a value, the heap, and what it puts off. -/
def stepO (P : Program) (call : FuncId → List Value → AH → Option (Value × AH)) (ev : Operand → Option Value) (h : AH) (op : Op) : Option (Value × AH × List (FuncId × List Value)) :=
  match op with
  | .call { callee := .value f, args, .. } => match ev f with
    | some fv => match evL ev args.toList with
      | some l => match calleeA P fv l with
        | some (g, ar) => match call g ar h with
          | some (v, h') => some (v, h', [])
          | none => none
        | none => none
      | none => none
    | none => none
  | .defer { callee := .value f, args, .. } => match ev f with
    | some fv => match evL ev args.toList with
      | some l => match calleeA P fv l with
        | some x => some (undef, h, [x])
        | none => none
      | none => none
    | none => none
  | op => match opA P ev h op with
    | some (v, h') => some (v, h', [])
    | none => none

def stepV (P : Program) (call : FuncId → List Value → AH → Option (Value × AH)) (ev : Operand → Option Value) (h : AH) (op : Op) : Option (Value × AH × List (FuncId × List Value)) :=
  match opG P ev op with
  | .ok b v => bif b then some (v, h, []) else none
  | .bad => none
  | .no => stepO P call ev h op

def stepA (P : Program) (gl : Nat → Option Nat) (call : FuncId → List Value → AH → Option (Value × AH)) (o : Oper) (σ : St) : Option St :=
  match σ with
  | ⟨T, n, h, ds⟩ => match stepV P call (evA gl T) h o.op with
    | some (v, h', d) => putA ⟨T, n, h', d ++ ds⟩ o.dst v
    | none => none
theorem stepA_def (P : Program) (gl : Nat → Option Nat) (call : FuncId → List Value → AH → Option (Value × AH)) (o : Oper) (σ : St) : stepA P gl call o σ =
  match stepV P call (evA gl σ.T) σ.h o.op with
  | some (v, h', d) => putA { σ with h := h', ds := d ++ σ.ds } o.dst v
  | none => none := rfl

/-- Is an operation carried out? (none: it can't be told) -/
def wantA (ops : Array Oper) (o : Oper) (T : Tr Value) : Option Bool :=
  match o.guard with
  | none => some true
  | some (j, want) => match ops.toList[j]? with
    | some oj => match oj.dst with
      | some d => match T.get d with
        | some (.bool b) => some (b == want)
        | some (.tuple _) => some false
        | _ => none
      | none => none
    | none => none

def doA (P : Program) (gl : Nat → Option Nat) (call : FuncId → List Value → AH → Option (Value × AH)) (ops : Array Oper) (o : Oper) (σ : St) : Option St :=
  match wantA ops o σ.T with
  | some true => stepA P gl call o σ
  | some false => putA σ o.dst undef
  | none => none

def opsA (P : Program) (gl : Nat → Option Nat) (call : FuncId → List Value → AH → Option (Value × AH)) (ops : Array Oper) : List Oper → St → Option St
  | [], σ => some σ
  | o :: r, σ => match doA P gl call ops o σ with
    | some σ' => opsA P gl call ops r σ'
    | none => none

inductive XA where
  | normal
  | exit (id : Nat)
  | ret

def iterA (f : St → Option (XA × St)) : Nat → St → Option (XA × St)
  | 0, _ => none
  | n + 1, σ => match f σ with
    | some (.normal, σ') => iterA f n σ'
    | r => r

end Go.Proofs.YtachednafdmmaaaDoor.AI
