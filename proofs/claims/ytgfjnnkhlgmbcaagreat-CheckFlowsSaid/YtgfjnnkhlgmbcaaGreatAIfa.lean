/- The abstract interpreter, a fast form of it for closed runs: what it runs, and how. Recursors are named outright: the kernel goes through them quickest. -/
import Derived.Test.YtgfjnnkhlgmbcaaGreatAIfh
namespace Go.Proofs.YtgfjnnkhlgmbcaaGreat.AI
open Go
set_option linter.unusedVariables false
set_option linter.unusedSimpArgs false

abbrev TT := Hex (Hex (Option Value))
def TT.get (T : TT) (d e : D16) : Option Value := (T.nth d).nth e
def TT.nil : TT := Hex.all (Hex.all none)
noncomputable def getT (d e : D16) (T : TT) (k : Value → O1) : O1 := selX d T fun X => selO e X fun v => Option.rec (motive := fun _ => O1) none k v
noncomputable def setT (d e : D16) (x : Option Value) (T : TT) (k : TT → O1) : O1 := selX d T fun X => updO e X x fun X' => updX d T X' k

/-- The heap. -/
structure FH where
  m : QH
  n : Nat

noncomputable def rowK (b : Blk) (k : Bool → Nat → List Value → O1) : O1 := Blk.rec (motive := fun _ => O1) k (fun _ _ => none) b

noncomputable def nthK {α : Type} (l : List α) : Nat → (α → O1) → O1 :=
  List.rec (motive := fun _ => Nat → (α → O1) → O1) (fun _ _ => none) (fun a _ ih n k => Nat.rec (motive := fun _ => O1) (k a) (fun m _ => ih m k) n) l
noncomputable def takeK {α : Type} (n : Nat) : List α → (List α → O1) → O1 :=
  Nat.rec (motive := fun _ => List α → (List α → O1) → O1) (fun _ k => k []) (fun _ ih l k => List.rec (motive := fun _ => O1) none (fun a r _ => ih r fun l' => k (a :: l')) l) n
noncomputable def dropK {α : Type} (n : Nat) : List α → (List α → O1) → O1 :=
  Nat.rec (motive := fun _ => List α → (List α → O1) → O1) (fun l k => k l) (fun _ ih l k => List.rec (motive := fun _ => O1) none (fun _ r _ => ih r k) l) n
noncomputable def putL (vs : List Value) : List Value → (List Value → O1) → O1 :=
  List.rec (motive := fun _ => List Value → (List Value → O1) → O1) (fun cs k => k cs) (fun v _ ih cs k => List.rec (motive := fun _ => O1) none (fun _ r _ => ih r fun r' => k (v :: r')) cs) vs
noncomputable def spliceK (off : Nat) (vs : List Value) : List Value → (List Value → O1) → O1 :=
  Nat.rec (motive := fun _ => List Value → (List Value → O1) → O1) (fun cs k => putL vs cs k) (fun _ ih cs k => List.rec (motive := fun _ => O1) none (fun a r _ => ih r fun r' => k (a :: r')) cs) off
noncomputable def catK {α : Type} (a : List α) : List α → (List α → O1) → O1 :=
  List.rec (motive := fun _ => List α → (List α → O1) → O1) (fun b k => k b) (fun x _ ih b k => ih b fun l => k (x :: l)) a

noncomputable def forceN (n : Nat) (k : Nat → O1) : O1 := Nat.rec (motive := fun _ => O1) (k 0) (fun m _ => k (Nat.succ m)) n
noncomputable def forceI (i : Int) (k : Int → O1) : O1 := Int.rec (motive := fun _ => O1) (fun n => forceN n fun m => k (.ofNat m)) (fun n => forceN n fun m => k (.negSucc m)) i
noncomputable def condK (b : Bool) (k : O1) : O1 := Bool.rec (motive := fun _ => O1) none k b
noncomputable def lenF {α : Type} (l : List α) : Nat := List.rec (motive := fun _ => Nat) 0 (fun _ _ ih => Nat.succ ih) l
noncomputable def allF (l : List Value) : Bool := List.rec (motive := fun _ => Bool) true (fun a _ ih => Bool.rec (motive := fun _ => Bool) false ih (cell1 a)) l

/-- What is handed to an operation. -/
inductive FArg where
  | t (d e : D16)
  | v (v : Value)

noncomputable def evF (a : FArg) : TT → (Value → O1) → O1 :=
  FArg.rec (motive := fun _ => TT → (Value → O1) → O1) getT (fun v _ k => k v) a
noncomputable def evFL (l : List FArg) : TT → (List Value → O1) → O1 :=
  List.rec (motive := fun _ => TT → (List Value → O1) → O1) (fun _ k => k []) (fun a _ ih T k => evF a T fun v => ih T fun vs => k (v :: vs)) l

noncomputable def kdN (kd : IntKind) : Nat := IntKind.rec (motive := fun _ => Nat) 0 1 2 3 4 5 6 7 kd

def u8N (a : UInt8) : Nat := a.toBitVec.toFin.val
noncomputable def eqU (l : List UInt8) : List UInt8 → Bool :=
  List.rec (motive := fun _ => List UInt8 → Bool) (fun l => List.rec (motive := fun _ => Bool) true (fun _ _ _ => false) l)
    (fun a _ ih l => List.rec (motive := fun _ => Bool) false (fun b r _ => Bool.rec (motive := fun _ => Bool) false (ih r) (Nat.beq (u8N a) (u8N b))) l) l

noncomputable def eqI (a b : Int) : Bool :=
  Int.rec (motive := fun _ => Bool) (fun m => Int.rec (motive := fun _ => Bool) (fun n => Nat.beq m n) (fun _ => false) b) (fun m => Int.rec (motive := fun _ => Bool) (fun _ => false) (fun n => Nat.beq m n) b) a
noncomputable def leI (a b : Int) : Bool :=
  Int.rec (motive := fun _ => Bool) (fun m => Int.rec (motive := fun _ => Bool) (fun n => Nat.ble m n) (fun _ => false) b) (fun m => Int.rec (motive := fun _ => Bool) (fun _ => true) (fun n => Nat.ble n m) b) a

noncomputable def mapK (v : Value) (k : Nat → O1) : O1 :=
  Value.rec (motive_1 := fun _ => O1) (motive_2 := fun _ => Unit) (motive_3 := fun _ => Unit)
    (fun _ => none)
    (fun _ _ => none)
    (fun _ _ => none)
    (fun _ _ _ => none)
    (fun _ => none)
    (fun _ => none)
    (fun _ _ _ => none)
    (fun r => Option.rec (motive := fun _ => O1) none k r)
    (fun _ => none)
    (fun _ _ _ _ _ => none)
    (none)
    (fun _ _ _ => none)
    (none)
    (fun _ _ => none)
    (fun _ _ => none)
    (fun _ _ => ()) () (fun _ _ _ _ => ()) v
noncomputable def mpB (b : Blk) (k : Bool → List (Value × Value) → O1) : O1 := Blk.rec (motive := fun _ => O1) (fun _ _ _ => none) k b
/-- Where a map whose keys are strings has a key. -/
noncomputable def findS (s : List UInt8) (es : List (Value × Value)) : O1 → (Value → O1) → O1 :=
  List.rec (motive := fun _ => O1 → (Value → O1) → O1) (fun no _ => no)
    (fun e _ ih no yes => Prod.rec (motive := fun _ => O1) (fun k v => strK k fun t => Bool.rec (motive := fun _ => O1) (ih no yes) (yes v) (eqU s t)) e) es
noncomputable def putS (s : List UInt8) (kv : Value × Value) (es : List (Value × Value)) : (List (Value × Value) → O1) → O1 :=
  List.rec (motive := fun _ => (List (Value × Value) → O1) → O1) (fun k => k [kv])
    (fun e r ih k => Prod.rec (motive := fun _ => O1) (fun ke _ => strK ke fun t => Bool.rec (motive := fun _ => O1) (ih fun r' => k (e :: r')) (k (kv :: r)) (eqU s t)) e) es

inductive FOp where
  | mv (a : FArg)
  | nilc (a : FArg)
  | load1 (a : FArg) (c : Nat)
  | loadN (a : FArg) (n : Nat)
  | store1 (a x : FArg)
  | storeN (a x : FArg) (n : Nat)
  | faddr (a : FArg) (off : Nat)
  | fld1 (a : FArg) (off : Nat)
  | fldN (a : FArg) (off n : Nat)
  | iaS (x i : FArg) (z : Nat)
  | ixS (x i : FArg)
  | add (x y : FArg)
  | sub (x y : FArg)
  | eql (x y : FArg)
  | neq (x y : FArg)
  | lss (x y : FArg)
  | leq (x y : FArg)
  | seql (x y : FArg)
  | sneq (x y : FArg)
  | not (x : FArg)
  | extr (x : FArg) (i : Nat)
  | lenL (x : FArg)
  | lenS (x : FArg)
  | mkF (fn : Fn) (first cap : List FArg)
  | alloc (z : List Value)
  | build (z : List Value) (ps : List (Nat × Nat × FArg))
  | box (a : FArg) (n : Nat)
  | bsl (n z : Nat) (args : List FArg)
  | ssl (x : FArg) (lo hi : Option FArg)
  | lsl (x : FArg) (lo hi : Option FArg) (z : Nat)
  | apd (s x : FArg) (z : Nat)
  | s2b (x : FArg)
  | sid (x : FArg)
  | callF (g : Nat) (args : List FArg)
  | callV (f : FArg) (args : List FArg)
  | slow (f : TT → Option Value)
  | mkM
  | look (x i : FArg) (z : Value) (ok : Bool)
  | mput (x i y : FArg)
  | mks (x y : FArg) (z : Nat) (cs : List Value)

abbrev KV := Value → FH → O1
abbrev CallK := Nat → List Value → FH → KV → O1
abbrev Sem1 := TT → FH → CallK → KV → O1

noncomputable def pMv (a : FArg) : Sem1 := fun T h _ k => evF a T fun v => k v h
noncomputable def pNilc (a : FArg) : Sem1 := fun T h _ k => evF a T fun v => nilcK v (k v h)
noncomputable def pLoad1 (a : FArg) (c : Nat) : Sem1 := fun T h _ k => evF a T fun v => ptrK v fun b off => gH b h.1 fun bl => rowK bl fun _ _ cs => nthK cs off fun x => condK (Nat.beq (knd x) c || Nat.beq c 10) (k x h)
noncomputable def pLoadN (a : FArg) (n : Nat) : Sem1 := fun T h _ k => evF a T fun v => ptrK v fun b off => gH b h.1 fun bl => rowK bl fun _ _ cs => dropK off cs fun l => takeK n l fun l' => k (.agg ⟨l'⟩) h
noncomputable def wrK (h : FH) (b off : Nat) (vs : List Value) (k : FH → O1) : O1 :=
  gH b h.1 fun bl => rowK bl fun ro z cs => Bool.rec (motive := fun _ => O1) (spliceK off vs cs fun cs' => sH b (some (.row false z cs')) h.1 fun m => k ⟨m, h.2⟩) none ro
noncomputable def pStore1 (a x : FArg) : Sem1 := fun T h _ k => evF a T fun v => ptrK v fun b off => evF x T fun u => condK (cell1 u) (wrK h b off [u] fun h' => k undef h')
noncomputable def pStoreN (a x : FArg) (n : Nat) : Sem1 := fun T h _ k => evF a T fun v => ptrK v fun b off => evF x T fun u => aggK u fun cs => condK (Nat.beq (lenF cs) n) (condK (allF cs) (wrK h b off cs fun h' => k undef h'))
noncomputable def pFaddr (a : FArg) (o : Nat) : Sem1 := fun T h _ k => evF a T fun v => ptrK v fun b off => forceN (Nat.add off o) fun off' => k (.pointer (some ⟨b, off', none⟩)) h
noncomputable def pFld1 (a : FArg) (o : Nat) : Sem1 := fun T h _ k => evF a T fun v => aggK v fun cs => nthK cs o fun x => k x h
noncomputable def pFldN (a : FArg) (o n : Nat) : Sem1 := fun T h _ k => evF a T fun v => aggK v fun cs => dropK o cs fun l => takeK n l fun l' => k (.agg ⟨l'⟩) h
noncomputable def pIaS (x i : FArg) (z : Nat) : Sem1 := fun T h _ k => evF x T fun v => slcK v (fun _ _ => none) fun b off n _ => evF i T fun iv => natK iv fun j => condK (Nat.ble (Nat.succ j) n) (forceN (Nat.add off (Nat.mul j z)) fun off' => k (.pointer (some ⟨b, off', none⟩)) h)
noncomputable def pIxS (x i : FArg) : Sem1 := fun T h _ k => evF x T fun v => strK v fun l => evF i T fun iv => natK iv fun j => nthK l j fun c => forceN (u8N c) fun c' => k (.int .u8 (.ofNat c')) h
noncomputable def binK (x y : FArg) (T : TT) (f : IntKind → Int → Int → O1) : O1 :=
  evF x T fun v => intvK v fun kd a => evF y T fun u => intvK u fun kd' b => condK (Nat.beq (kdN kd) (kdN kd')) (f kd a b)
noncomputable def pAdd (x y : FArg) : Sem1 := fun T h _ k => binK x y T fun kd a b => forceI (kd.wrap (a + b)) fun i => k (.int kd i) h
noncomputable def pSub (x y : FArg) : Sem1 := fun T h _ k => binK x y T fun kd a b => forceI (kd.wrap (a - b)) fun i => k (.int kd i) h
noncomputable def tfK (b : Bool) (t f : O1) : O1 := Bool.rec (motive := fun _ => O1) f t b
noncomputable def pEql (x y : FArg) : Sem1 := fun T h _ k => binK x y T fun _ a b => tfK (eqI a b) (k (.bool true) h) (k (.bool false) h)
noncomputable def pNeq (x y : FArg) : Sem1 := fun T h _ k => binK x y T fun _ a b => tfK (eqI a b) (k (.bool false) h) (k (.bool true) h)
noncomputable def pLss (x y : FArg) : Sem1 := fun T h _ k => binK x y T fun _ a b => tfK (leI b a) (k (.bool false) h) (k (.bool true) h)
noncomputable def pLeq (x y : FArg) : Sem1 := fun T h _ k => binK x y T fun _ a b => tfK (leI a b) (k (.bool true) h) (k (.bool false) h)
noncomputable def str2 (x y : FArg) (T : TT) (f : List UInt8 → List UInt8 → O1) : O1 := evF x T fun v => strK v fun a => evF y T fun u => strK u fun b => f a b
noncomputable def pSeql (x y : FArg) : Sem1 := fun T h _ k => str2 x y T fun a b => tfK (eqU a b) (k (.bool true) h) (k (.bool false) h)
noncomputable def pSneq (x y : FArg) : Sem1 := fun T h _ k => str2 x y T fun a b => tfK (eqU a b) (k (.bool false) h) (k (.bool true) h)
noncomputable def pNot (x : FArg) : Sem1 := fun T h _ k => evF x T fun v => boolK v (k (.bool false) h) (k (.bool true) h)
noncomputable def pExtr (x : FArg) (i : Nat) : Sem1 := fun T h _ k => evF x T fun v => tupK v fun l => nthK l i fun u => k u h
noncomputable def pLenL (x : FArg) : Sem1 := fun T h _ k => evF x T fun v => slcK v (fun n _ => k (.int .i64 (.ofNat n)) h) fun _ _ n _ => k (.int .i64 (.ofNat n)) h
noncomputable def pLenS (x : FArg) : Sem1 := fun T h _ k => evF x T fun v => strK v fun l => forceN (lenF l) fun n => k (.int .i64 (.ofNat n)) h
noncomputable def pMkF (fn : Fn) (first cap : List FArg) : Sem1 := fun T h _ k => evFL first T fun l => evFL cap T fun l' => k (.func fn ⟨l⟩ ⟨l'⟩) h
noncomputable def addK (h : FH) (b : Blk) (k : Nat → FH → O1) : O1 := sH h.2 (some b) h.1 fun m => forceN h.2 fun n => k n ⟨m, Nat.succ n⟩
noncomputable def pAlloc (z : List Value) : Sem1 := fun T h _ k => addK h (.row false 1 z) fun b h' => k (.pointer (some ⟨b, 0, none⟩)) h'
noncomputable def cellsK (v : Value) (n : Nat) (k : List Value → O1) : O1 := Bool.rec (motive := fun _ => O1) (aggK v fun l => condK (Nat.beq (lenF l) n) (k l)) (condK (Nat.beq n 1) (k [v])) (cell1 v)
noncomputable def fillK (ps : List (Nat × Nat × FArg)) : TT → List Value → (List Value → O1) → O1 :=
  List.rec (motive := fun _ => TT → List Value → (List Value → O1) → O1) (fun _ cs k => k cs)
    (fun p _ ih T cs k => Prod.rec (motive := fun _ => O1) (fun off q => Prod.rec (motive := fun _ => O1) (fun n a => evF a T fun v => cellsK v n fun vs => spliceK off vs cs fun cs' => ih T cs' k) q) p) ps
noncomputable def pBuild (z : List Value) (ps : List (Nat × Nat × FArg)) : Sem1 := fun T h _ k => fillK ps T z fun cs => k (.agg ⟨cs⟩) h
noncomputable def pBox (a : FArg) (n : Nat) : Sem1 := fun T h _ k => evF a T fun v => cellsK v n fun cs => addK h (.row false 1 cs) fun b h' => k (.pointer (some ⟨b, 0, none⟩)) h'
/-- The cells of so many values, each of z cells. -/
noncomputable def rowsK (z : Nat) (l : List FArg) : TT → (List Value → O1) → O1 :=
  List.rec (motive := fun _ => TT → (List Value → O1) → O1) (fun _ k => k []) (fun a _ ih T k => evF a T fun v => cellsK v z fun vs => ih T fun r => catK vs r k) l
noncomputable def pBsl (n z : Nat) (args : List FArg) : Sem1 := fun T h _ k => rowsK z args T fun cs => addK h (.row false z cs) fun b h' => k (.slice (some ⟨b, 0, none⟩) n 0) h'
noncomputable def bndF (o : Option FArg) (d : Nat) (T : TT) (k : Nat → O1) : O1 := Option.rec (motive := fun _ => O1) (k d) (fun a => evF a T fun v => natK v k) o
noncomputable def pSsl (x : FArg) (lo hi : Option FArg) : Sem1 := fun T h _ k => evF x T fun v => strK v fun l => bndF lo 0 T fun a => Option.rec (motive := fun _ => O1)
  (dropK a l fun l' => k (.string ⟨⟨l'⟩⟩) h) (fun r => evF r T fun u => natK u fun b => condK (Nat.ble a b) (dropK a l fun l1 => takeK (Nat.sub b a) l1 fun l' => k (.string ⟨⟨l'⟩⟩) h)) hi
noncomputable def pLsl (x : FArg) (lo hi : Option FArg) (z : Nat) : Sem1 := fun T h _ k => evF x T fun v => slcK v (fun _ _ => none) fun b off n c => bndF lo 0 T fun l => bndF hi n T fun r =>
  condK (Nat.ble l r) (condK (Nat.ble r (Nat.add n (Nat.div c 2))) (condK (!Nat.beq l (Nat.add n (Nat.div c 2))) (forceN (Nat.add off (Nat.mul l z)) fun off' => forceN (Nat.sub r l) fun n' => forceN (Nat.sub (Nat.add c (Nat.mul 2 n)) (Nat.mul 2 r)) fun c' =>
    k (.slice (some ⟨b, off', none⟩) n' c') h)))
/-- The cells that are appended. -/
noncomputable def srcF (h : FH) (z : Nat) (v : Value) (k : Nat → List Value → O1) : O1 := slcK v (fun n _ => condK (Nat.beq n 0) (k 0 [])) fun b off n _ =>
  gH b h.1 fun bl => rowK bl fun _ _ cs => dropK off cs fun l => takeK (Nat.mul n z) l fun l' => k n l'
noncomputable def pApd (s x : FArg) (z : Nat) : Sem1 := fun T h _ k => evF x T fun xv => srcF h z xv fun n new => evF s T fun sv => slcK sv
  (fun l c => condK (Nat.beq l 0) (condK (Nat.beq c 0) (tfK (Nat.beq n 0) (k (.slice none 0 0) h) (condK (Nat.ble n 4294967296) (addK h (.row false z new) fun b h' => k (.slice (some ⟨b, 0, none⟩) n 1) h')))))
  fun b off l c => tfK (Nat.beq n 0) (k (.slice (some ⟨b, off, none⟩) l c) h) (tfK (Nat.ble n (Nat.div c 2))
    (condK (allF new) (forceN (Nat.add l n) fun l' => forceN (Nat.sub c (Nat.mul 2 n)) fun c' => wrK h b (Nat.add off (Nat.mul l z)) new fun h' => k (.slice (some ⟨b, off, none⟩) l' c') h'))
    (condK (Nat.ble (Nat.add l n) 4294967296) (gH b h.1 fun bl => rowK bl fun ro z' cs => dropK off cs fun l1 => takeK (Nat.mul l z) l1 fun old => catK old new fun all => forceN (Nat.add l n) fun l' =>
      tfK (Nat.beq (Nat.mod c 2) 0) (addK h (.row false z all) fun b' h' => k (.slice (some ⟨b', 0, none⟩) l' 1) h')
        (condK (!ro) (condK (Nat.beq z' z) (condK (Nat.beq (Nat.add off (Nat.mul (Nat.add l (Nat.div c 2)) z')) (lenF cs)) (condK (allF new) (sH b none h.1 fun m => addK ⟨m, h.2⟩ (.row false z all) fun b' h' => k (.slice (some ⟨b', 0, none⟩) l' 1) h'))))))))
noncomputable def bytesF (l : List UInt8) (k : List Value → O1) : O1 :=
  List.rec (motive := fun _ => (List Value → O1) → O1) (fun k => k []) (fun b _ ih k => ih fun r => k (.int .u8 (.ofNat (u8N b)) :: r)) l k
noncomputable def pS2b (x : FArg) : Sem1 := fun T h _ k => evF x T fun v => strK v fun l => bytesF l fun cs => forceN (lenF l) fun n => addK h (.row false 1 cs) fun b h' => k (.slice (some ⟨b, 0, none⟩) n 1) h'
noncomputable def pSid (x : FArg) : Sem1 := fun T h _ k => evF x T fun v => strK v fun l => k (.string ⟨⟨l⟩⟩) h
noncomputable def pCallF (g : Nat) (args : List FArg) : Sem1 := fun T h call k => evFL args T fun l => call g l h k
noncomputable def pCallV (f : FArg) (args : List FArg) : Sem1 := fun T h call k => evF f T fun fv => funK fv fun g first cap => evFL args T fun l => catK l cap fun l1 => catK first l1 fun l2 => call g l2 h k
noncomputable def splitB (v : Value) (k : Value → O1) : O1 := match v with
  | .bool b => Bool.rec (motive := fun _ => O1) (k (.bool false)) (k (.bool true)) b
  | v => k v
noncomputable def pSlow (f : TT → Option Value) : Sem1 := fun T h _ k => Option.rec (motive := fun _ => O1) none (fun v => splitB v fun v => k v h) (f T)

noncomputable def pMkM : Sem1 := fun T h _ k => addK h (.mp false []) fun b h' => k (.map (some b)) h'
noncomputable def pLook (x i : FArg) (z : Value) (ok : Bool) : Sem1 := fun T h _ k => evF x T fun m => mapK m fun r => gH r h.1 fun bl => mpB bl fun _ es => evF i T fun kv => strK kv fun s =>
  findS s es (Bool.rec (motive := fun _ => O1) (k z h) (k (.tuple ⟨[z, .bool false]⟩) h) ok) (fun v => Bool.rec (motive := fun _ => O1) (k v h) (k (.tuple ⟨[v, .bool true]⟩) h) ok)
noncomputable def pMput (x i y : FArg) : Sem1 := fun T h _ k => evF x T fun m => mapK m fun r => gH r h.1 fun bl => mpB bl fun ro es => evF i T fun kv => strK kv fun s => evF y T fun v =>
  Bool.rec (motive := fun _ => O1) (putS s (kv, v) es fun es' => sH r (some (.mp false es')) h.1 fun m' => k undef ⟨m', h.2⟩) none ro

noncomputable def repK (z : List Value) (n : Nat) : (List Value → O1) → O1 := Nat.rec (motive := fun _ => (List Value → O1) → O1) (fun k => k []) (fun _ ih k => ih fun r => catK z r k) n
noncomputable def pMks (x y : FArg) (z : Nat) (cs : List Value) : Sem1 := fun T h _ k => evF x T fun lv => natK lv fun l => evF y T fun cv => natK cv fun c => condK (Nat.ble l c) (condK (Nat.ble c 65536) (repK cs c fun r =>
  addK h (.row false z r) fun b h' => forceN (Nat.mul 2 (Nat.sub c l)) fun c' => k (.slice (some ⟨b, 0, none⟩) l c') h'))

noncomputable def semF (o : FOp) : Sem1 :=
  FOp.rec (motive := fun _ => Sem1) pMv pNilc pLoad1 pLoadN pStore1 pStoreN pFaddr pFld1 pFldN pIaS pIxS pAdd pSub pEql pNeq pLss pLeq pSeql pSneq pNot pExtr pLenL pLenS pMkF pAlloc pBuild pBox pBsl pSsl pLsl pApd pS2b pSid pCallF pCallV pSlow pMkM pLook pMput pMks o

/-- A step: is it carried out (guarded by a truth value)? what it does, and where to. -/
inductive FG where
  | no
  | on (d e : D16) (want : Bool)
inductive FD where
  | no
  | to (d e : D16)
/-- How a step looks at those that stand beside it: not at all; its block may not be written by others; it may write no block that others read. -/
inductive FL where
  | no
  | rd (i c : Nat) (a : FArg)
  | wr (m : Nat)
  | nw
inductive FStep where
  | s (o : FOp) (d e : D16)
  | n (o : FOp)
  | op (g : FG) (l : FL) (o : FOp) (d : FD)
  | dfr (g : FG) (f : FArg) (args : List FArg) (d : FD)

abbrev RDS := List (Nat × Nat)
abbrev KT := TT → FH → DS → RDS → O1

noncomputable def putF (d : FD) (v : Value) (T : TT) (k : TT → O1) : O1 :=
  FD.rec (motive := fun _ => O1) (k T) (fun d e => setT d e (some v) T k) d

def blkOf (c : Nat) (v : Value) : Option Nat := match c with
  | 0 => (match v with
    | .pointer (some p) => some p.block
    | _ => none)
  | 1 => (match v with
    | .slice (some p) _ _ => some p.block
    | _ => none)
  | _ => (match v with
    | .map (some r) => some r
    | _ => none)

noncomputable def lockB (b : Blk) : Blk := Blk.rec (motive := fun _ => Blk) (fun _ z cs => .row true (unz z) cs) (fun _ es => .mp true es) b
noncomputable def lockF (l : List Nat) : FH → (FH → O1) → O1 :=
  List.rec (motive := fun _ => FH → (FH → O1) → O1) (fun h k => k h) (fun b _ ih h k => gH b h.1 fun x => sH b (some (lockB x)) h.1 fun m => ih ⟨m, h.2⟩ k) l
noncomputable def unlockF (h0 : FH) (l : List Nat) : FH → (FH → O1) → O1 :=
  List.rec (motive := fun _ => FH → (FH → O1) → O1) (fun h k => k h) (fun b _ ih h k => gH b h0.1 fun x => sH b (some x) h.1 fun m => ih ⟨m, h.2⟩ k) l

noncomputable def doF (l : FL) (o : FOp) (T : TT) (h : FH) (rds : RDS) (call : CallK) (k : Value → FH → RDS → O1) : O1 :=
  FL.rec (motive := fun _ => O1) (semF o T h call fun v h' => k v h' rds)
    (fun i c a => semF o T h call fun v h' => evF a T fun u => Option.rec (motive := fun _ => O1) (k v h' rds) (fun b => k v h' ((i, b) :: rds)) (blkOf c u))
    (fun m => lockF ((rds.filter fun x => !m.testBit x.1).map (·.2)) h fun hl => semF o T hl call fun v h' => unlockF h ((rds.filter fun x => !m.testBit x.1).map (·.2)) h' fun h2 => k v h2 rds)
    (condK (rds.all fun x => !Nat.beq x.2 h.2) (semF o T h call fun v h' => k v h' rds)) l

/-- What is under a guard: done, or passed over. -/
noncomputable def guardF (g : FG) (T : TT) (go skip : O1) : O1 :=
  FG.rec (motive := fun _ => O1) go (fun d e want => getT d e T fun c => Bool.rec (motive := fun _ => O1) (guardK c skip go skip) (guardK c go skip skip) want) g

noncomputable def dfrK (f : FArg) (args : List FArg) (T : TT) (k : FuncId → List Value → O1) : O1 := evF f T fun fv => funK fv fun g first cap => evFL args T fun l => catK l cap fun l1 => catK first l1 fun l2 => k g l2

noncomputable def stepF (s : FStep) : TT → FH → DS → RDS → CallK → KT → O1 :=
  FStep.rec (motive := fun _ => TT → FH → DS → RDS → CallK → KT → O1)
    (fun o d e T h ds rds call k => semF o T h call fun v h' => setT d e (some v) T fun T' => k T' h' ds rds)
    (fun o T h ds rds call k => semF o T h call fun v h' => k T h' ds rds)
    (fun g l o d T h ds rds call k => guardF g T (doF l o T h rds call fun v h' rds' => putF d v T fun T' => k T' h' ds rds') (putF d undef T fun T' => k T' h ds rds))
    (fun g f args d T h ds rds _ k => guardF g T (dfrK f args T fun g ar => putF d undef T fun T' => k T' h ((g, ar) :: ds) rds) (putF d undef T fun T' => k T' h ds rds)) s

noncomputable def stepsF (l : List FStep) : TT → FH → DS → RDS → CallK → KT → O1 :=
  List.rec (motive := fun _ => TT → FH → DS → RDS → CallK → KT → O1) (fun T h ds rds _ k => k T h ds rds) (fun s _ ih T h ds rds call k => stepF s T h ds rds call fun T' h' ds' rds' => ih T' h' ds' rds' call k) l

noncomputable def clearF (l : List (D16 × D16)) : TT → (TT → O1) → O1 :=
  List.rec (motive := fun _ => TT → (TT → O1) → O1) (fun T k => k T) (fun p _ ih T k => Prod.rec (motive := fun _ => O1) (fun d e => setT d e none T fun T' => ih T' k) p) l
inductive FC where
  | skip
  | steps (l : List FStep)
  | news (clear : List (D16 × D16)) (l : List FStep)
  | seq (a b : FC)
  | cond (c : FArg) (t e : FC)
  | block (id : Nat) (c : FC)
  | loop (c : FC)
  | exit (id : Nat)
  | ret
  | bad

abbrev KC' := XA → TT → FH → DS → O1
abbrev SemC := CallK → Nat → TT → FH → DS → KC' → O1

noncomputable def cSkip : SemC := fun _ _ T h ds k => k .normal T h ds
noncomputable def cSteps (l : List FStep) : SemC := fun call _ T h ds k => stepsF l T h ds [] call fun T' h' ds' _ => k .normal T' h' ds'
noncomputable def cNews (clear : List (D16 × D16)) (l : List FStep) : SemC := fun call _ T h ds k => clearF clear T fun T1 => stepsF l T1 h ds [] call fun T2 h2 ds2 _ => k .normal T2 h2 ds2
noncomputable def cSeq (_ _ : FC) (a b : SemC) : SemC := fun call fuel T h ds k => a call fuel T h ds fun x T' h' ds' => XA.rec (motive := fun _ => O1) (b call fuel T' h' ds' k) (fun id => k (.exit id) T' h' ds') (k .ret T' h' ds') x
noncomputable def cCond (c : FArg) (_ _ : FC) (t e : SemC) : SemC := fun call fuel T h ds k => evF c T fun v => boolK v (t call fuel T h ds k) (e call fuel T h ds k)
noncomputable def cBlock (id : Nat) (_ : FC) (c : SemC) : SemC := fun call fuel T h ds k => c call fuel T h ds fun x T' h' ds' => XA.rec (motive := fun _ => O1) (k .normal T' h' ds') (fun i => Bool.rec (motive := fun _ => O1) (k (.exit i) T' h' ds') (k .normal T' h' ds') (Nat.beq i id)) (k .ret T' h' ds') x
noncomputable def itF (c : TT → FH → DS → KC' → O1) (n : Nat) : TT → FH → DS → KC' → O1 :=
  Nat.rec (motive := fun _ => TT → FH → DS → KC' → O1) (fun _ _ _ _ => none) (fun _ ih T h ds k => c T h ds fun x T' h' ds' => XA.rec (motive := fun _ => O1) (ih T' h' ds' k) (fun id => k (.exit id) T' h' ds') (k .ret T' h' ds') x) n
noncomputable def cLoop (_ : FC) (c : SemC) : SemC := fun call fuel T h ds k => itF (c call fuel) fuel T h ds k
noncomputable def cExit (id : Nat) : SemC := fun _ _ T h ds k => k (.exit id) T h ds
noncomputable def cRet : SemC := fun _ _ T h ds k => k .ret T h ds
noncomputable def cBad : SemC := fun _ _ _ _ _ _ => none

noncomputable def semC (c : FC) : SemC := FC.rec (motive := fun _ => SemC) cSkip cSteps cNews cSeq cCond cBlock cLoop cExit cRet cBad c

/-- A function: its code, where its answers stand. -/
inductive FRes where
  | t (d e : D16)
  | c (d e : D16) (o : Nat)
  | cn (d e : D16) (n : Nat)
inductive FFn where
  | mk (ps : List (D16 × D16)) (c : FC) (res : List FRes)
  | nat (F : List Value → Option Value)
  | hp (F : List Value → FH → KV → O1)

noncomputable def argsF (ps : List (D16 × D16)) : List Value → TT → (TT → O1) → O1 :=
  List.rec (motive := fun _ => List Value → TT → (TT → O1) → O1) (fun l T k => List.rec (motive := fun _ => O1) (k T) (fun _ _ _ => none) l)
    (fun p _ ih l T k => List.rec (motive := fun _ => O1) (k T) (fun v r _ => Prod.rec (motive := fun _ => O1) (fun d e => setT d e (some v) T fun T' => ih r T' k) p) l) ps

noncomputable def noCK : CallK := fun _ _ _ _ => none
noncomputable def resF (l : List FRes) : TT → FH → (List Value → O1) → O1 :=
  List.rec (motive := fun _ => TT → FH → (List Value → O1) → O1) (fun _ _ k => k [])
    (fun x _ ih T h k => FRes.rec (motive := fun _ => O1) (fun d e => getT d e T fun v => ih T h fun vs => k (v :: vs)) (fun d e o => pLoad1 (.t d e) o T h noCK fun v _ => ih T h fun vs => k (v :: vs)) (fun d e n => pLoadN (.t d e) n T h noCK fun v _ => ih T h fun vs => k (v :: vs)) x) l

noncomputable def tupF (l : List Value) : Value := List.rec (motive := fun _ => Value) (.tuple ⟨[]⟩) (fun a r _ => List.rec (motive := fun _ => Value) a (fun b r' _ => .tuple ⟨a :: b :: r'⟩) r) l

noncomputable def dsF (call : CallK) (ds : DS) : FH → (FH → O1) → O1 :=
  List.rec (motive := fun _ => FH → (FH → O1) → O1) (fun h k => k h) (fun x _ ih h k => Prod.rec (motive := fun _ => O1) (fun g ar => call g ar h fun _ h' => ih h' k) x) ds
noncomputable def dsOk (d : Bool) (ds : DS) : Bool := Bool.rec (motive := fun _ => Bool) true (List.rec (motive := fun _ => Bool) true (fun _ _ _ => false) ds) d

noncomputable def endF (call : CallK) (d : Bool) (res : List FRes) (T : TT) (h : FH) (ds : DS) (k : KV) : O1 :=
  condK (dsOk d ds) (dsF call ds h fun h2 => resF res T h2 fun vs => k (tupF vs) h2)

noncomputable def getF (t : Tr FFn) : Nat → (FFn → O1) → O1 :=
  Tr.rec (motive := fun _ => Nat → (FFn → O1) → O1) (fun _ _ => none)
    (fun v _ _ ihl ihr i k => Nat.rec (motive := fun _ => O1) (Option.rec (motive := fun _ => O1) none k v) (fun j _ => Bool.rec (motive := fun _ => O1) (ihr (Nat.div j 2) k) (ihl (Nat.div j 2) k) (Nat.beq (Nat.mod j 2) 0)) i) t

/-- A call. -/
noncomputable def callF (tab : Tr FFn) (n : Nat) : Bool → CallK :=
  Nat.rec (motive := fun _ => Bool → CallK) (fun _ _ _ _ _ => none)
    (fun n ih d g args h k => getF tab g fun fn => FFn.rec (motive := fun _ => O1) (fun ps c res => argsF ps args TT.nil fun T => semC c (ih false) n T h [] fun x T' h' ds =>
      XA.rec (motive := fun _ => O1) (endF (ih true) d res T' h' ds k) (fun _ => none) (endF (ih true) d res T' h' ds k) x)
      (fun F => Bool.rec (motive := fun _ => O1) (Option.rec (motive := fun _ => O1) none (fun v => splitB v fun v => k v h) (F args)) none d)
      (fun F => Bool.rec (motive := fun _ => O1) (F args h k) none d) fn) n

end Go.Proofs.YtgfjnnkhlgmbcaaGreat.AI
