/- The abstract interpreter, with what comes next handed on: so that the kernel can pass tests on numbers that are not known. -/
import Derived.Test.YtachednafdmmaaaDoorAIv
namespace Go.Proofs.YtachednafdmmaaaDoor.AI
open Go
set_option linter.unusedVariables false
set_option linter.unusedSimpArgs false

variable {P : Program} {gl : Nat → Option Nat} {R : Type}

/-- A truth value is told before one goes on. -/
def splitV (v : Value) (k : Value → Option R) : Option R :=
  match v with
  | .bool b => match b with
    | true => k (.bool true)
    | false => k (.bool false)
  | v => k v

theorem splitV_eq (v : Value) (k : Value → Option R) : splitV v k = k v := by
  cases v
  case bool b => cases b <;> rfl
  all_goals rfl

/-- Two numbers. -/
def intK (op : BinOp) (kd kd' : IntKind) (a b : Int) (k : Value → Option R) : Option R :=
  match op with
  | .quo => bif kd == kd' then (match decide (b = 0) with
    | true => none
    | false => k (.int kd (kd.wrap (a.tdiv b)))) else none
  | .rem => bif kd == kd' then (match decide (b = 0) with
    | true => none
    | false => k (.int kd (a.tmod b))) else none
  | .shl => match decide (b < 0) with
    | true => none
    | false => k (.int kd (kd.wrap (a * 2 ^ (min b.toNat kd.bits))))
  | .shr => match decide (b < 0) with
    | true => none
    | false => k (.int kd (a.fdiv (2 ^ (min b.toNat kd.bits))))
  | op => bif kd == kd' then (match intA op kd a b with
    | some v => k v
    | none => none) else none

theorem intK_eq (t : TypeId) (cst : Bool) (op : BinOp) (kd kd' : IntKind) (a b : Int) (k : Value → Option R) : intK op kd kd' a b k = match binA P op t cst (.int kd a) (.int kd' b) with
    | some v => k v
    | none => none := by
  have hne : kd ≠ kd' → (kd == kd') = false := fun h => by simpa using h
  cases op
  case quo =>
    simp only [intK, binA]
    by_cases h : kd = kd'
    · subst h
      by_cases hb : b = 0
      · simp only [intA, Op.intDiv, hb, beq_self_eq_true, cond_true, decide_true, if_true, pureOf, runtimePanic]; rfl
      · simp [intA, Op.intDiv, hb, pureOf]; rfl
    · simp [h, hne h]
  case rem =>
    simp only [intK, binA]
    by_cases h : kd = kd'
    · subst h
      by_cases hb : b = 0
      · simp only [intA, Op.intDiv, hb, beq_self_eq_true, cond_true, decide_true, if_true, pureOf, runtimePanic]; rfl
      · simp [intA, Op.intDiv, hb, pureOf]; rfl
    · simp [h, hne h]
  case shl =>
    simp only [intK, binA]
    by_cases hb : b < 0
    · simp only [Op.shift, hb, decide_true, if_true, pureOf, runtimePanic]; rfl
    · simp [Op.shift, hb, pureOf]; rfl
  case shr =>
    simp only [intK, binA]
    by_cases hb : b < 0
    · simp only [Op.shift, hb, decide_true, if_true, pureOf, runtimePanic]; rfl
    · simp [Op.shift, hb, pureOf]; rfl
  all_goals
    simp only [intK, binA]
    by_cases h : kd = kd'
    · subst h
      simp
    · simp [h, hne h]

/-- Two strings. -/
def sopK (op : BinOp) (a b : ByteArray) (k : Value → Option R) : Option R :=
  match op with
  | .add => match decide (((a.data.toList.length + b.data.toList.length : Nat) : Int) > IntKind.i64.max) with
    | true => none
    | false => k (.string ⟨⟨a.data.toList ++ b.data.toList⟩⟩)
  | op => match strA op a b with
    | some v => k v
    | none => none

theorem sopK_eq (t : TypeId) (cst : Bool) (op : BinOp) (a b : ByteArray) (k : Value → Option R) : sopK op a b k = match binA P op t cst (.string a) (.string b) with
    | some v => k v
    | none => none := by
  cases op
  case add =>
    simp only [sopK, binA, strA]
    by_cases h : ((a.data.toList.length + b.data.toList.length : Nat) : Int) > IntKind.i64.max
    · rw [decide_eq_true h, if_pos h]
    · rw [decide_eq_false h, if_neg h]
  all_goals rfl

section
variable (P : Program)

def cellK (t : TypeId) (cs : List Value) (off : Nat) (k : Value → Option R) : Option R :=
  match P.underlying t with
  | some (.int kd) => bif isInt kd cs off then k (.int kd (intAt cs off)) else none
  | some .bool => bif isBool cs off then k (.bool (boolAt cs off)) else none
  | some .string => bif isStr cs off then k (.string (strAt cs off)) else none
  | _ => match cs[off]? with
    | some v => k v
    | none => none
theorem cellK_eq (t : TypeId) (cs : List Value) (off : Nat) (k : Value → Option R) : cellK P t cs off k = match cellA P t cs off with
    | some v => k v
    | none => none := by
  unfold cellK cellA kindOk
  cases hu : P.underlying t with
  | none => dsimp only; cases cs[off]? <;> rfl
  | some sh =>
    cases sh with
    | int kd =>
      dsimp only
      unfold isInt intAt
      cases cs[off]? with
      | none => rfl
      | some v =>
        cases v with
        | int kd' x =>
          dsimp only
          by_cases h : kd' = kd
          · subst h; rw [decide_eq_true rfl]; rfl
          · rw [decide_eq_false h]; rfl
        | _ => rfl
    | bool =>
      dsimp only
      unfold isBool boolAt
      cases cs[off]? with
      | none => rfl
      | some v => cases v <;> rfl
    | string =>
      dsimp only
      unfold isStr strAt
      cases cs[off]? with
      | none => rfl
      | some v => cases v <;> rfl
    | _ => dsimp only; cases cs[off]? <;> rfl

def loadK (h : AH) (t : TypeId) (b off : Nat) (k : Value → Option R) : Option R :=
  match h.get b with
  | some (.row _ _ cs) => match aggT P t with
    | some true => match szT P t with
      | some n => bif Nat.ble (off + n) cs.length then k (.agg ⟨(cs.drop off).take n⟩) else none
      | none => none
    | some false => cellK P t cs off k
    | none => none
  | _ => none

def writeK (h : AH) (b off : Nat) (vs : List Value) (k : AH → Option R) : Option R :=
  match h.get b with
  | some (.row false z cs) => bif Nat.ble (off + vs.length) cs.length then (bif vs.all one1 then k (h.put b (.row false z (splice cs off vs))) else none) else none
  | _ => none

def storeK (h : AH) (t : TypeId) (b off : Nat) (v : Value) (k : AH → Option R) : Option R :=
  match szT P t with
  | some n => bif Nat.beq v.cells.toList.length n then writeK h b off v.cells.toList k else none
  | none => none

def readK (h : AH) (b off n : Nat) (k : List Value → Option R) : Option R :=
  match h.get b with
  | some (.row _ _ cs) => bif Nat.ble (off + n) cs.length then k ((cs.drop off).take n) else none
  | _ => none

def bndK (x : Option Value) (d : Nat) (k : Nat → Option R) : Option R :=
  match x with
  | none => k d
  | some (.int _ i) => bif decide (0 ≤ i) then k i.toNat else none
  | some _ => none

def sliceK (t : TypeId) (x : Value) (lo hi mx : Option Value) (k : Value → Option R) : Option R :=
  match P.underlying t with
  | some .string => match x with
    | .string s => bif mx.isSome then none else bndK lo 0 fun l => bndK hi s.data.toList.length fun r =>
        bif Nat.ble l r then (bif Nat.ble r s.data.toList.length then k (.string ⟨⟨(s.data.toList.drop l).take (r - l)⟩⟩) else none) else none
    | _ => none
  | some (.slice e) => match szT P e with
    | none => none
    | some z => match x with
      | .slice none n c => match sliceA P t (.slice none n c) lo hi mx with
        | some v => k v
        | none => none
      | .slice (some ⟨b, off, none⟩) n c => bndK lo 0 fun l => bndK hi n fun r => match mx with
        | none => bif Nat.ble l r then (bif Nat.ble r (n + c / 2) then
              (bif Nat.beq (c % 2) 0 then k (.slice (some ⟨b, bif Nat.beq l (n + c / 2) then off else off + l * z, none⟩) (r - l) (c + 2 * n - 2 * r))
               else k (.slice (some ⟨b, off + l * z, none⟩) (r - l) (c + 2 * n - 2 * r))) else none) else none
        | some mv => match bnd (some mv) 0 with
          | some m => bif Nat.ble l r && Nat.ble r m && Nat.ble m (n + c / 2) && hi.isSome && !(Nat.beq n 0 && Nat.beq c 1) then
              k (.slice (some ⟨b, bif Nat.beq l m then off else off + l * z, none⟩) (r - l) (2 * (m - r))) else none
          | none => none
      | _ => none
  | _ => match sliceA P t x lo hi mx with
    | some v => k v
    | none => none

def indexAddrK (t : TypeId) (x i : Value) (k : Value → Option R) : Option R :=
  match i with
  | .int _ i => match P.underlying t with
    | some (.slice e) => match szT P e with
      | some z => match x with
        | .slice (some ⟨b, off, none⟩) n _ => bif decide (0 ≤ i) then (bif decide (i < n) then k (.pointer (some ⟨b, off + i.toNat * z, none⟩)) else none) else none
        | _ => none
      | none => none
    | _ => match indexAddrA P t x (.int .i64 i) with
      | some v => k v
      | none => none
  | _ => none

def byteAt (l : List UInt8) (i : Nat) : Int := match l[i]? with
  | some b => (b.toNat : Int)
  | none => 0
def indexK (t : TypeId) (x i : Value) (k : Value → Option R) : Option R :=
  match i with
  | .int _ i => match P.underlying t with
    | some .string => match x with
      | .string s => bif decide (0 ≤ i) then (bif Nat.blt i.toNat s.data.toList.length then k (.int .u8 (byteAt s.data.toList i.toNat)) else none) else none
      | _ => none
    | _ => match indexA P t x (.int .i64 i) with
      | some v => k v
      | none => none
  | _ => none

def srcK (h : AH) (z : Nat) (x : Value) (k : Nat → List Value → Option R) : Option R :=
  match x with
  | .slice none n _ => bif Nat.beq n 0 then k 0 [] else none
  | .slice (some ⟨b, off, none⟩) n _ => match h.get b with
    | some _ => readK h b off (n * z) fun cs => k n cs
    | none => bif Nat.beq n 0 then k 0 [] else none
  | .string s => bif Nat.beq z 1 then k s.data.toList.length (byteCells s.data.toList) else none
  | .iface t (.tuple ⟨.slice none l off :: .bool ex :: cs⟩) => bif Nat.beq t 4294967296 then (bif Nat.ble (off + l * z) cs.length then k l ((cs.drop off).take (l * z)) else none) else none
  | _ => none

def appendK (h : AH) (ts : List TypeId) (s x : Value) (k : Value → AH → Option R) : Option R :=
  match ts with
  | tS :: tX :: _ => match P.underlying tS with
    | some (.slice e) => match P.info? e with
      | none => none
      | some i => match P.underlying tX with
        | none => none
        | some (.int _) => none
        | some _ => srcK h i.size x fun n new => match zeroA P e with
            | none => none
            | some zv => match s with
              | .slice none 0 0 =>
                bif Nat.beq n 0 then k (.slice none 0 0) h
                else bif Nat.ble n 4294967296 then (bif Nat.ble i.bytes 32768 && Nat.beq zv.cells.toList.length i.size then k (.slice (some ⟨h.next, 0, none⟩) n 1) (h.add (.row false i.size new)) else none) else none
              | .slice (some ⟨b, off, none⟩) l c =>
                bif Nat.beq n 0 then k (.slice (some ⟨b, off, none⟩) l c) h else bif !Nat.beq (c / 2) 0 && Nat.ble n (c / 2) then
                  (writeK h b (off + l * i.size) new fun h' => k (.slice (some ⟨b, off, none⟩) (l + n) (c - 2 * n)) h')
                else bif Nat.ble (l + n) 4294967296 then (bif Nat.ble i.bytes 32768 && Nat.beq zv.cells.toList.length i.size then
                  (readK h b off (l * i.size) fun old => bif Nat.beq (c % 2) 0 then
                      k (.slice (some ⟨h.next, 0, none⟩) (l + n) 1) (h.add (.row false i.size (old ++ new)))
                    else match h.get b with
                      | some (.row false z cs) => bif Nat.beq z i.size then (bif Nat.beq (off + (l + c / 2) * z) cs.length then (bif !Nat.beq z 0 then (bif new.all one1 then
                          k (.slice (some ⟨h.next, 0, none⟩) (l + n) 1) ((h.kill b).add (.row false i.size (old ++ new))) else none) else none) else none) else none
                      | _ => none)
                  else none) else none
              | .iface t (.tuple ⟨.slice none l off :: .bool ex :: cs⟩) => bif Nat.beq t 4294967296 then (bif ex then (bif Nat.ble (off + l * i.size) cs.length then (bif Nat.beq n 0 then k (gslV l off true cs) h else
                  bif Nat.ble (l + n) 4294967296 then (bif Nat.ble i.bytes 32768 && Nat.beq zv.cells.toList.length i.size then
                    k (.slice (some ⟨h.next, 0, none⟩) (l + n) 1) (h.add (.row false i.size ((cs.drop off).take (l * i.size) ++ new))) else none) else none) else none) else none) else none
              | _ => none
    | _ => none
  | _ => none
end

section
variable {P : Program}
theorem loadK_eq (h : AH) (t : TypeId) (b off : Nat) (k : Value → Option R) : loadK P h t b off k = match loadA P h t b off with
    | some v => k v
    | none => none := by
  unfold loadK loadA
  cases h.get b with
  | none => rfl
  | some x =>
    cases x with
    | mp r es => rfl
    | row r z cs =>
      dsimp only
      cases aggT P t with
      | none => rfl
      | some g =>
        cases g with
        | false => dsimp only; exact cellK_eq P t cs off k
        | true =>
          dsimp only
          cases szT P t with
          | none => rfl
          | some n => dsimp only; cases Nat.ble (off + n) cs.length <;> rfl

theorem writeK_eq (h : AH) (b off : Nat) (vs : List Value) (k : AH → Option R) : writeK h b off vs k = match writeA h b off vs with
    | some h' => k h'
    | none => none := by
  rw [writeA_def]
  unfold writeK
  cases h.get b with
  | none => rfl
  | some x =>
    cases x with
    | mp r es => rfl
    | row r z cs =>
      cases r with
      | true => rfl
      | false =>
        dsimp only
        cases Nat.ble (off + vs.length) cs.length <;> cases vs.all one1 <;> rfl

theorem storeK_eq (h : AH) (t : TypeId) (b off : Nat) (v : Value) (k : AH → Option R) : storeK P h t b off v k = match storeA P h t b off v with
    | some h' => k h'
    | none => none := by
  unfold storeK storeA
  cases szT P t with
  | none => rfl
  | some n =>
    dsimp only
    cases Nat.beq v.cells.toList.length n with
    | false => rfl
    | true => exact writeK_eq _ _ _ _ _

theorem readK_eq (h : AH) (b off n : Nat) (k : List Value → Option R) : readK h b off n k = match readA h b off n with
    | some l => k l
    | none => none := by
  rw [readA_def]
  unfold readK
  cases h.get b with
  | none => rfl
  | some x =>
    cases x with
    | mp r es => rfl
    | row r z cs => dsimp only; cases Nat.ble (off + n) cs.length <;> rfl

theorem bndK_eq (x : Option Value) (d : Nat) (k : Nat → Option R) : bndK x d k = match bnd x d with
    | some n => k n
    | none => none := by
  unfold bndK bnd
  cases x with
  | none => rfl
  | some v =>
    cases v
    case int kd i =>
      dsimp only
      by_cases hi : 0 ≤ i
      · rw [decide_eq_true hi, if_pos hi]; rfl
      · rw [decide_eq_false hi, if_neg hi]; rfl
    all_goals rfl

theorem sliceK_eq (t : TypeId) (x : Value) (lo hi mx : Option Value) (k : Value → Option R) : sliceK P t x lo hi mx k = match sliceA P t x lo hi mx with
    | some v => k v
    | none => none := by
  unfold sliceK
  split
  · rename_i hu
    unfold sliceA
    rw [hu]
    dsimp only
    cases x <;> try rfl
    rename_i s
    dsimp only
    cases mx.isSome with
    | true => rfl
    | false =>
      simp only [cond_false, bndK_eq]
      cases bnd lo 0 with
      | none => rfl
      | some l =>
        dsimp only
        cases bnd hi s.data.toList.length with
        | none => rfl
        | some r =>
          dsimp only
          cases Nat.ble l r <;> cases Nat.ble r s.data.toList.length <;> rfl
  · rename_i e hu
    unfold sliceA
    rw [hu]
    dsimp only
    cases szT P e with
    | none => rfl
    | some z =>
      dsimp only
      cases x <;> try rfl
      rename_i a n c
      cases a with
      | none => rfl
      | some p =>
        obtain ⟨b, off, sp⟩ := p
        cases sp with
        | some q => rfl
        | none =>
          simp only [bndK_eq]
          cases bnd lo 0 with
          | none => rfl
          | some l =>
            dsimp only
            cases bnd hi n with
            | none => rfl
            | some r =>
              dsimp only
              cases mx with
              | none =>
                dsimp only
                cases Nat.ble l r <;> cases Nat.ble r (n + c / 2) <;> cases Nat.beq (c % 2) 0 <;> rfl
              | some mv =>
                dsimp only
                cases bnd (some mv) 0 with
                | none => rfl
                | some m =>
                  dsimp only
                  cases (Nat.ble l r && Nat.ble r m && Nat.ble m (n + c / 2) && hi.isSome && !(Nat.beq n 0 && Nat.beq c 1)) <;> rfl
  · rfl

theorem indexAddrK_eq (t : TypeId) (x i : Value) (k : Value → Option R) : indexAddrK P t x i k = match indexAddrA P t x i with
    | some v => k v
    | none => none := by
  unfold indexAddrK
  cases i
  case int kd i =>
    dsimp only
    split
    · rename_i e hu
      unfold indexAddrA
      dsimp only
      rw [hu]
      dsimp only
      cases szT P e with
      | none => rfl
      | some z =>
        dsimp only
        cases x <;> try rfl
        rename_i a n c
        cases a with
        | none => rfl
        | some p =>
          obtain ⟨b, off, sp⟩ := p
          cases sp with
          | some q => rfl
          | none =>
            dsimp only
            by_cases h1 : 0 ≤ i
            · by_cases h2 : i < n
              · rw [decide_eq_true h1, decide_eq_true h2, if_pos ⟨h1, h2⟩]; rfl
              · rw [decide_eq_true h1, decide_eq_false h2, if_neg (fun h => h2 h.2)]; rfl
            · rw [decide_eq_false h1, if_neg (fun h => h1 h.1)]; rfl
    · unfold indexAddrA; rfl
  all_goals rfl

theorem indexK_eq (t : TypeId) (x i : Value) (k : Value → Option R) : indexK P t x i k = match indexA P t x i with
    | some v => k v
    | none => none := by
  unfold indexK
  cases i
  case int kd i =>
    dsimp only
    split
    · rename_i hu
      unfold indexA
      dsimp only
      rw [hu]
      dsimp only
      cases x <;> try rfl
      rename_i s
      dsimp only
      by_cases h1 : 0 ≤ i
      · rw [decide_eq_true h1, if_pos h1]
        simp only [cond_true]
        unfold byteAt
        cases hb : s.data.toList[i.toNat]? with
        | none =>
          have : Nat.blt i.toNat s.data.toList.length = false := by
            rw [← Bool.not_eq_true]; intro h; rw [Nat.blt_eq] at h; have := List.getElem?_eq_none_iff.1 hb; omega
          rw [this]; rfl
        | some b =>
          have : Nat.blt i.toNat s.data.toList.length = true := by rw [Nat.blt_eq]; exact (List.getElem?_eq_some_iff.1 hb).1
          rw [this]; rfl
      · rw [decide_eq_false h1, if_neg h1]; rfl
    · unfold indexA; rfl
  all_goals rfl

theorem srcK_eq (h : AH) (z : Nat) (x : Value) (k : Nat → List Value → Option R) : srcK h z x k = match srcA h z x with
    | some (n, cs) => k n cs
    | none => none := by
  unfold srcK srcA
  cases x <;> try rfl
  case string s => dsimp only; cases Nat.beq z 1 <;> rfl
  case slice a n c =>
    cases a with
    | none => dsimp only; cases Nat.beq n 0 <;> rfl
    | some p =>
      obtain ⟨b, off, sp⟩ := p
      cases sp with
      | some q => rfl
      | none =>
        dsimp only
        cases h.get b with
        | none => dsimp only; cases Nat.beq n 0 <;> rfl
        | some bb => simp only [readK_eq]; cases readA h b off (n * z) <;> rfl
  case iface t v =>
    cases v <;> try rfl
    rename_i vs
    obtain ⟨l⟩ := vs
    cases l with
    | nil => rfl
    | cons a r =>
      cases a <;> try rfl
      rename_i ad n off
      cases ad with
      | some p => rfl
      | none =>
        cases r with
        | nil => rfl
        | cons b cs =>
          cases b <;> try rfl
          dsimp only
          cases Nat.beq t 4294967296 with
          | false => rfl
          | true => dsimp only [cond_true]; cases Nat.ble (off + n * z) cs.length <;> rfl

theorem appendK_eq (h : AH) (ts : List TypeId) (s x : Value) (k : Value → AH → Option R) : appendK P h ts s x k = match appendA P h ts s x with
    | some (v, h') => k v h'
    | none => none := by
  unfold appendK appendA
  cases ts with
  | nil => rfl
  | cons tS ts =>
    cases ts with
    | nil => rfl
    | cons tX ts =>
      dsimp only
      cases P.underlying tS with
      | none => rfl
      | some d =>
        cases d <;> try rfl
        rename_i e
        dsimp only
        cases P.info? e with
        | none => rfl
        | some i =>
          dsimp only
          cases P.underlying tX with
          | none => rfl
          | some dX =>
            cases dX <;> try rfl
            all_goals
              simp only [srcK_eq]
              cases srcA h i.size x with
              | none => rfl
              | some y =>
                obtain ⟨n, new⟩ := y
                dsimp only
                cases zeroA P e with
                | none => rfl
                | some zv =>
                  dsimp only
                  split
                  · cases Nat.beq n 0 <;> cases Nat.ble n 4294967296 <;> cases Nat.ble i.bytes 32768 <;> cases Nat.beq zv.cells.toList.length i.size <;> rfl
                  · rename_i b off l c
                    have hx0 : Nat.beq n 0 = true → Nat.ble n (c / 2) = true := fun hn => by rw [Nat.eq_of_beq_eq_true hn]; exact Nat.ble_eq_true_of_le (Nat.zero_le _)
                    have hx1 : Nat.beq n 0 = false → (!Nat.beq (c / 2) 0 && Nat.ble n (c / 2)) = Nat.ble n (c / 2) := fun hn => by
                      cases hz : Nat.beq (c / 2) 0 with
                      | false => rfl
                      | true =>
                        rw [Nat.eq_of_beq_eq_true hz]
                        cases n with
                        | zero => cases hn
                        | succ n => rfl
                    cases hq : Nat.ble n (c / 2) with
                    | true =>
                      cases hn : Nat.beq n 0 with
                      | true => simp only [hq, hn, cond_true]
                      | false =>
                        have hx2 := hx1 hn
                        rw [hq] at hx2
                        simp only [hq, hx2, hn, cond_true, cond_false, writeK_eq]
                        cases hw : writeA h b (off + l * i.size) new <;> simp only [hw]
                    | false =>
                      have hn : Nat.beq n 0 = false := by
                        cases hn : Nat.beq n 0 with
                        | false => rfl
                        | true => rw [hx0 hn] at hq; cases hq
                      have hx2 := hx1 hn
                      rw [hq] at hx2
                      simp only [hq, hx2, hn, cond_false]
                      cases h1 : Nat.ble (l + n) 4294967296 <;> cases h2 : Nat.ble i.bytes 32768 <;> cases h3 : Nat.beq zv.cells.toList.length i.size <;> simp only [hq, h1, h2, h3, Bool.and_false, Bool.false_and, Bool.and_true, Bool.and_self, cond_false, cond_true, readK_eq, forceL_eq]
                      cases hr : readA h b off (l * i.size) with
                      | none => simp only [hr]
                      | some old =>
                        cases hc : Nat.beq (c % 2) 0 with
                        | true => simp only [hr, hc, cond_true]
                        | false =>
                          cases hb : h.get b with
                          | none => simp only [hr, hc, hb, cond_false]
                          | some bb =>
                            cases bb with
                            | mp r es => simp only [hr, hc, hb, cond_false]
                            | row r z cs =>
                              cases r with
                              | true => simp only [hr, hc, hb, cond_false]
                              | false =>
                                cases g1 : Nat.beq z i.size <;> cases g2 : Nat.beq (off + (l + c / 2) * z) cs.length <;> cases g3 : Nat.beq z 0 <;> cases g4 : new.all one1 <;>
                                  simp only [hr, hc, hb, g1, g2, g3, g4, cond_true, cond_false, Bool.and_false, Bool.false_and, Bool.and_true, Bool.and_self, Bool.not_true, Bool.not_false]
                  · rename_i t l off ex cs
                    cases hq : Nat.beq t 4294967296 with
                    | false => simp only [hq, Bool.false_and, cond_false]
                    | true =>
                      cases ex with
                      | false => simp only [hq, Bool.and_false, cond_false, cond_true]
                      | true =>
                        cases h0 : Nat.ble (off + l * i.size) cs.length with
                        | false => simp only [hq, h0, Bool.and_self, cond_true, cond_false]
                        | true =>
                          cases hn : Nat.beq n 0 with
                          | true => simp only [hq, h0, hn, Bool.and_self, cond_true]
                          | false =>
                            cases h1 : Nat.ble (l + n) 4294967296 <;> cases h2 : Nat.ble i.bytes 32768 <;> cases h3 : Nat.beq zv.cells.toList.length i.size <;> simp only [hq, h0, hn, h1, h2, h3, Bool.and_false, Bool.false_and, Bool.and_true, Bool.and_self, cond_false, cond_true]
                  · rename_i hn1 hn2 hn3
                    split
                    · rename_i hh
                      split at hh <;> first
                        | exact (hn1 rfl).elim
                        | exact (hn2 _ _ _ _ rfl).elim
                        | exact (hn3 _ _ _ _ _ rfl).elim
                        | cases hh
                    · rfl

/-- Are two structs' cells compared without trouble? how? -/
def eqOkB (P : Program) (fs : List Field) (xs ys : List Value) : Bool := (aeqF P (aeqD P 9999) xs ys fs).isSome
def eqB (P : Program) (fs : List Field) (xs ys : List Value) : Bool := (aeqF P (aeqD P 9999) xs ys fs).getD false
/-- Two structs compared. -/
def saK (P : Program) (op : BinOp) (t : TypeId) (xs ys : List Value) (k : Bool → Option R) : Option R :=
  match P.underlying t with
  | some (.struct fs) => match op with
    | .eql => bif !P.eqGuardType P.depth t && !P.stoodInHeld t then (bif eqOkB P fs.toList xs ys then k (eqB P fs.toList xs ys) else none) else none
    | .neq => bif !P.eqGuardType P.depth t && !P.stoodInHeld t then (bif eqOkB P fs.toList xs ys then k (!eqB P fs.toList xs ys) else none) else none
    | _ => none
  | _ => none
theorem saK_eq (P : Program) (op : BinOp) (t : TypeId) (cst : Bool) (xs ys : Array Value) (k : Value → Option R) {fs : Array Field} (hu : P.underlying t = some (.struct fs)) : saK P op t xs.toList ys.toList (fun b => k (.bool b)) = match binA P op t cst (.agg xs) (.agg ys) with
    | some v => k v
    | none => none := by
  have e : ∀ (z : Bool), (bif P.stoodInHeld t then none else aeqF P (aeqD P 9999) xs.toList ys.toList fs.toList) = aeqD P 10000 t (.agg xs) (.agg ys) := by
    intro _
    show _ = aeqD P (9999 + 1) t _ _
    unfold aeqD
    rw [hu]
  have e := e true
  have ho : eqOk P t cst (.agg xs) (.agg ys) = !P.eqGuardType P.depth t := rfl
  unfold saK
  simp only [hu]
  have hb : binA P op t cst (.agg xs) (.agg ys) = bif !P.eqGuardType P.depth t then (match op with
      | .eql => match aeqD P 10000 t (.agg xs) (.agg ys) with
        | some r => some (.bool r)
        | none => none
      | .neq => match aeqD P 10000 t (.agg xs) (.agg ys) with
        | some r => some (.bool (!r))
        | none => none
      | _ => none) else none := by
    rw [← ho]; rfl
  rw [hb, ← e]
  unfold eqOkB eqB
  cases P.eqGuardType P.depth t with
  | true => cases op <;> rfl
  | false =>
    cases P.stoodInHeld t with
    | true => cases op <;> rfl
    | false =>
      simp only [Bool.not_false, Bool.and_self, cond_true, cond_false]
      cases op <;> first | rfl | (cases aeqF P (aeqD P 9999) xs.toList ys.toList fs.toList <;> rfl)
/-- Has a map no such key? -/
def fMiss (P : Program) (kt : TypeId) (kv : Value) (es : List (Value × Value)) : Bool := match findA P kt kv es 0 with
  | some none => true
  | _ => false
/-- Has it? -/
def fHas (P : Program) (kt : TypeId) (kv : Value) (es : List (Value × Value)) : Bool := match findA P kt kv es 0 with
  | some (some _) => true
  | _ => false
/-- Its value. -/
def fGot (P : Program) (kt : TypeId) (kv : Value) (es : List (Value × Value)) : List Value := match findA P kt kv es 0 with
  | some (some (_, v)) => [v]
  | _ => []
/-- Its place. -/
def fIdx (P : Program) (kt : TypeId) (kv : Value) (es : List (Value × Value)) : Nat := match findA P kt kv es 0 with
  | some (some (i, _)) => i
  | _ => 0
def sameAt (es : List (Value × Value)) (i : Nat) (kv : Value) : Bool := match es[i]? with
  | some e => sameA e.1 kv
  | none => false
def lookupK (P : Program) (h : AH) (t : TypeId) (m kv : Value) (ok : Bool) (k : Value → Option R) : Option R :=
  match P.underlying t with
  | some (.map kt e) => match mapEs h m with
    | some es => bif keyA P 10000 kt kv then (bif fMiss P kt kv es then (match zeroA P e with
        | some z => k (bif ok then .tuple ⟨[z, .bool false]⟩ else z)
        | none => none) else cellK P e (fGot P kt kv es) 0 fun v => k (bif ok then .tuple ⟨[v, .bool true]⟩ else v)) else none
    | none => none
  | _ => none
theorem lookupK_eq (P : Program) (h : AH) (t : TypeId) (m kv : Value) (ok : Bool) (k : Value → Option R) : lookupK P h t m kv ok k = match lookupA P h t m kv ok with
    | some v => k v
    | none => none := by
  unfold lookupK lookupA
  cases hu : P.underlying t with
  | none => rfl
  | some d =>
  cases d with
  | map kt e =>
    dsimp only
    cases mapEs h m with
    | none => rfl
    | some es =>
      dsimp only
      cases keyA P 10000 kt kv with
      | false => rfl
      | true =>
        simp only [cond_true, cellK_eq]
        unfold fMiss fGot
        cases findA P kt kv es 0 with
        | none => rfl
        | some o =>
          cases o with
          | some p =>
            obtain ⟨i, v⟩ := p
            dsimp only [cond_false]
            simp only [cellA, List.getElem?_cons_zero]
            cases kindOk P e v <;> rfl
          | none =>
            dsimp only [cond_true]
            cases zeroA P e <;> rfl
  | _ => rfl
def mapPutK (P : Program) (h : AH) (t : TypeId) (m kv v : Value) (k : AH → Option R) : Option R :=
  match P.underlying t with
  | some (.map kt _) => match m with
    | .map (some r) => match h.get r with
      | some (.mp false es) => bif keyA P 10000 kt kv then (bif fMiss P kt kv es then k (h.put r (.mp false (es ++ [(kv, v)]))) else
        bif fHas P kt kv es then (bif sameAt es (fIdx P kt kv es) kv then k (h.put r (.mp false (es.set (fIdx P kt kv es) (kv, v)))) else none) else none) else none
      | _ => none
    | _ => none
  | _ => none
theorem mapPutK_eq (P : Program) (h : AH) (t : TypeId) (m kv v : Value) (k : AH → Option R) : mapPutK P h t m kv v k = match mapPutA P h t m kv v with
    | some h' => k h'
    | none => none := by
  unfold mapPutK mapPutA
  cases hu : P.underlying t with
  | none => rfl
  | some d =>
  cases d with
  | map kt e =>
    dsimp only
    cases m with
    | map mr =>
      cases mr with
      | none => rfl
      | some r =>
      dsimp only
      cases hg : h.get r with
      | none => rfl
      | some bl =>
      cases bl with
      | row ro z cs => rfl
      | mp ro es =>
        cases ro with
        | true => rfl
        | false =>
        dsimp only
        cases keyA P 10000 kt kv with
        | false => rfl
        | true =>
          simp only [cond_true]
          unfold fMiss fHas fIdx sameAt
          cases findA P kt kv es 0 with
          | none => rfl
          | some o =>
            cases o with
            | none => rfl
            | some p =>
              obtain ⟨i, u⟩ := p
              dsimp only [cond_false, cond_true]
              cases es[i]? with
              | none => rfl
              | some e =>
                dsimp only
                cases sameA e.1 kv <;> rfl
    | _ => rfl
  | _ => rfl

/-- An operation that calls no function, with what comes next handed on. -/
def opK (P : Program) (ev : Operand → Option Value) (h : AH) (op : Op) (k : Value → AH → Option R) : Option R :=
  match op with
  | .load t a => match ev a with
    | some (.pointer (some ⟨b, off, none⟩)) => loadK P h t b off fun v => k v h
    | _ => none
  | .store t a x => match ev a with
    | some (.pointer (some ⟨b, off, none⟩)) => match ev x with
      | some v => storeK P h t b off v fun h' => k undef h'
      | none => none
    | _ => none
  | .slice t x lo hi mx => match ev x with
    | some v => match evO ev lo with
      | some l => match evO ev hi with
        | some r => match evO ev mx with
          | some m => sliceK P t v l r m fun u => k u h
          | none => none
        | none => none
      | none => none
    | none => none
  | .indexAddr t x i => match ev x with
    | some v => match ev i with
      | some j => indexAddrK P t v j fun u => k u h
      | none => none
    | none => none
  | .index t x i => match ev x with
    | some v => match ev i with
      | some j => indexK P t v j fun u => k u h
      | none => none
    | none => none
  | .call { callee := .builtin .append, args, argTypes } => match evL ev args.toList with
    | some (s :: x :: _) => appendK P h argTypes.toList s x k
    | _ => none
  | .lookup t x i ok => match ev x with
    | some m => match ev i with
      | some kv => lookupK P h t m kv ok fun u => k u h
      | none => none
    | none => none
  | .mapUpdate t x i y => match ev x with
    | some m => match ev i with
      | some kv => match ev y with
        | some v => mapPutK P h t m kv v fun h' => k undef h'
        | none => none
      | none => none
    | none => none
  | op => match opA P ev h op with
    | some (v, h') => k v h'
    | none => none

theorem opK_eq (ev : Operand → Option Value) (h : AH) (op : Op) (k : Value → AH → Option R) : opK P ev h op k = match opA P ev h op with
    | some (v, h') => k v h'
    | none => none := by
  unfold opK
  split
  · rename_i t a
    simp only [opA]
    split
    · rename_i b off ha
      simp only [ha, loadK_eq]
      cases loadA P h t b off <;> rfl
    · rename_i hn
      cases ha : ev a with
      | none => rfl
      | some v =>
        cases v <;> try rfl
        rename_i p
        cases p with
        | none => rfl
        | some p =>
          obtain ⟨b, off, sp⟩ := p
          cases sp with
          | some q => rfl
          | none => exact absurd ha (hn b off)
  · rename_i t a x
    simp only [opA]
    split
    · rename_i b off ha
      simp only [ha]
      cases ev x with
      | none => rfl
      | some v =>
        simp only [storeK_eq]
        cases storeA P h t b off v <;> rfl
    · rename_i hn
      cases ha : ev a with
      | none => rfl
      | some v =>
        cases v <;> try rfl
        rename_i p
        cases p with
        | none => rfl
        | some p =>
          obtain ⟨b, off, sp⟩ := p
          cases sp with
          | some q => rfl
          | none => exact absurd ha (hn b off)
  · rename_i t x lo hi mx
    simp only [opA]
    cases ev x with
    | none => rfl
    | some v =>
      dsimp only
      cases evO ev lo with
      | none => rfl
      | some l =>
        dsimp only
        cases evO ev hi with
        | none => rfl
        | some r =>
          dsimp only
          cases evO ev mx with
          | none => rfl
          | some m =>
            simp only [sliceK_eq]
            cases sliceA P t v l r m <;> rfl
  · rename_i t x i
    simp only [opA]
    cases ev x with
    | none => rfl
    | some v =>
      dsimp only
      cases ev i with
      | none => rfl
      | some j =>
        simp only [indexAddrK_eq]
        cases indexAddrA P t v j <;> rfl
  · rename_i t x i
    simp only [opA]
    cases ev x with
    | none => rfl
    | some v =>
      dsimp only
      cases ev i with
      | none => rfl
      | some j =>
        simp only [indexK_eq]
        cases indexA P t v j <;> rfl
  · rename_i args ts
    simp only [opA]
    cases evL ev args.toList with
    | none => rfl
    | some l =>
      cases l with
      | nil => rfl
      | cons s l =>
        cases l with
        | nil => rfl
        | cons x l => simp only [builtinA, appendK_eq]
  · rename_i t x i ok
    simp only [opA]
    cases ev x with
    | none => rfl
    | some m =>
      dsimp only
      cases ev i with
      | none => rfl
      | some kv =>
        simp only [lookupK_eq]
        cases lookupA P h t m kv ok <;> rfl
  · rename_i t x i y
    simp only [opA]
    cases ev x with
    | none => rfl
    | some m =>
      dsimp only
      cases ev i with
      | none => rfl
      | some kv =>
        dsimp only
        cases ev y with
        | none => rfl
        | some v =>
          simp only [mapPutK_eq]
          cases mapPutA P h t m kv v <;> rfl
  · rfl
end

/-- A call, with what comes next handed on. -/
abbrev CK (R : Type) := FuncId → List Value → AH → (Value → AH → Option R) → Option R

def CKok (call : CallA) (callK : CK R) : Prop := ∀ (g : FuncId) (ar : List Value) (h : AH) (k : Value → AH → Option R), callK g ar h k = match call g ar h with
  | some (v, h') => k v h'
  | none => none

def putK (σ : St) (dst : Option Tmp) (v : Value) (k : St → Option R) : Option R :=
  splitV v fun v => match putA σ dst v with
    | some σ' => k σ'
    | none => none

theorem putK_eq (σ : St) (dst : Option Tmp) (v : Value) (k : St → Option R) : putK σ dst v k = match putA σ dst v with
    | some σ' => k σ'
    | none => none := splitV_eq _ _

def stepK (P : Program) (gl : Nat → Option Nat) (call : CallA) (callK : CK R) (o : Oper) (σ : St) (k : St → Option R) : Option R :=
  match opG P (evA gl σ.T) o.op with
  | .ok b v => bif b then putK { σ with h := σ.h, ds := [] ++ σ.ds } o.dst v k else none
  | .bad => none
  | .no => match o.op with
  | .call { callee := .value f, args, .. } => match evA gl σ.T f with
    | some fv => match evL (evA gl σ.T) args.toList with
      | some l => match calleeA P fv l with
        | some (g, ar) => callK g ar σ.h fun v h' => putK { σ with h := h', ds := [] ++ σ.ds } o.dst v k
        | none => none
      | none => none
    | none => none
  | .binOp op t x y ty => match evA gl σ.T x, evA gl σ.T y with
    | some (.int kd a), some (.int kd' b) => intK op kd kd' a b fun v => putK { σ with h := σ.h, ds := [] ++ σ.ds } o.dst v k
    | some (.string a), some (.string b) => sopK op a b fun v => putK { σ with h := σ.h, ds := [] ++ σ.ds } o.dst v k
    | some (.agg xs), some (.agg ys) => match P.underlying t with
      | some (.struct _) => saK P op t xs.toList ys.toList fun b => putK { σ with h := σ.h, ds := [] ++ σ.ds } o.dst (.bool b) k
      | _ => match stepO P call (evA gl σ.T) σ.h (.binOp op t x y ty) with
        | some (v, h', d) => putK { σ with h := h', ds := d ++ σ.ds } o.dst v k
        | none => none
    | _, _ => match stepO P call (evA gl σ.T) σ.h (.binOp op t x y ty) with
      | some (v, h', d) => putK { σ with h := h', ds := d ++ σ.ds } o.dst v k
      | none => none
  | .defer c => match stepO P call (evA gl σ.T) σ.h (.defer c) with
    | some (v, h', d) => putK { σ with h := h', ds := d ++ σ.ds } o.dst v k
    | none => none
  | op => opK P (evA gl σ.T) σ.h op fun v h' => putK { σ with h := h', ds := [] ++ σ.ds } o.dst v k

theorem stepK_eq {call : CallA} {callK : CK R} (hc : CKok call callK) (o : Oper) (σ : St) (k : St → Option R) : stepK P gl call callK o σ k = match stepA P gl call o σ with
    | some σ' => k σ'
    | none => none := by
  have gen : (match stepV P call (evA gl σ.T) σ.h o.op with
      | some (v, h', d) => putK { σ with h := h', ds := d ++ σ.ds } o.dst v k
      | none => none) = match stepA P gl call o σ with
    | some σ' => k σ'
    | none => none := by
    rw [stepA_def]
    cases stepV P call (evA gl σ.T) σ.h o.op with
    | none => rfl
    | some x => obtain ⟨v, h', d⟩ := x; exact putK_eq _ _ _ _
  rw [← gen]
  unfold stepK stepV
  cases hg : opG P (evA gl σ.T) o.op with
  | ok b v => cases b <;> rfl
  | bad => rfl
  | no =>
  dsimp only
  split
  · rename_i f args ts hop
    simp only [stepO, hop]
    cases evA gl σ.T f with
    | none => rfl
    | some fv =>
      dsimp only
      cases evL (evA gl σ.T) args.toList with
      | none => rfl
      | some l =>
        dsimp only
        cases calleeA P fv l with
        | none => rfl
        | some x =>
          obtain ⟨g, ar⟩ := x
          dsimp only
          rw [hc]
          cases call g ar σ.h with
          | none => rfl
          | some y => rfl
  · rename_i op t x y ty hop
    rw [hop]
    split
    · rename_i kd a kd' b hx hy
      rw [intK_eq (P := P) t (isConst x || isConst y)]
      simp only [stepO, opA, hx, hy]
      cases binA P op t (isConst x || isConst y) (.int kd a) (.int kd' b) with
      | none => rfl
      | some v => rfl
    · rename_i a b hx hy
      rw [sopK_eq (P := P) t (isConst x || isConst y)]
      simp only [stepO, opA, hx, hy]
      cases binA P op t (isConst x || isConst y) (.string a) (.string b) with
      | none => rfl
      | some v => rfl
    · rename_i xs ys hx hy
      split
      · rename_i fs hu
        rw [saK_eq P op t (isConst x || isConst y) xs ys (fun v => putK { σ with h := σ.h, ds := [] ++ σ.ds } o.dst v k) hu]
        simp only [stepO, opA, hx, hy]
        cases binA P op t (isConst x || isConst y) (.agg xs) (.agg ys) with
        | none => rfl
        | some v => rfl
      · rfl
    · rfl
  · rename_i c hop
    rw [hop]
  · rename_i op h1 h2 h3
    rw [opK_eq]
    have key : stepO P call (evA gl σ.T) σ.h o.op = match opA P (evA gl σ.T) σ.h o.op with
        | some (v, h') => some (v, h', [])
        | none => none := by
      cases hq : o.op <;> first
        | rfl
        | exact absurd hq (h2 _ _ _ _ _)
        | exact absurd hq (h3 _)
        | (rename_i c
           obtain ⟨callee, args, ts⟩ := c
           cases callee <;> first
             | rfl
             | exact absurd hq (h1 _ _ _))
    rw [key]
    cases opA P (evA gl σ.T) σ.h o.op with
    | none => rfl
    | some y => rfl

def doK (P : Program) (gl : Nat → Option Nat) (call : CallA) (callK : CK R) (ops : Array Oper) (o : Oper) (σ : St) (k : St → Option R) : Option R :=
  match wantA ops o σ.T with
  | some true => stepK P gl call callK o σ k
  | some false => match putA σ o.dst undef with
    | some σ' => k σ'
    | none => none
  | none => none

theorem doK_eq {call : CallA} {callK : CK R} (hc : CKok call callK) (ops : Array Oper) (o : Oper) (σ : St) (k : St → Option R) : doK P gl call callK ops o σ k = match doA P gl call ops o σ with
    | some σ' => k σ'
    | none => none := by
  unfold doK doA
  cases wantA ops o σ.T with
  | none => rfl
  | some b => cases b with
    | true => exact stepK_eq hc o σ k
    | false => rfl

def opsK (P : Program) (gl : Nat → Option Nat) (call : CallA) (callK : CK R) (ops : Array Oper) : List Oper → St → (St → Option R) → Option R
  | [], σ, k => k σ
  | o :: r, σ, k => doK P gl call callK ops o σ fun σ' => opsK P gl call callK ops r σ' k

theorem opsK_eq {call : CallA} {callK : CK R} (hc : CKok call callK) (ops : Array Oper) : ∀ (l : List Oper) (σ : St) (k : St → Option R), opsK P gl call callK ops l σ k = match opsA P gl call ops l σ with
    | some σ' => k σ'
    | none => none := by
  intro l
  induction l with
  | nil => intro σ k; rfl
  | cons o r ih =>
    intro σ k
    unfold opsK opsA
    rw [doK_eq hc]
    cases doA P gl call ops o σ with
    | none => rfl
    | some σ' => exact ih σ' k

def iterK (f : St → (XA → St → Option R) → Option R) : Nat → St → (XA → St → Option R) → Option R
  | 0, _, _ => none
  | n + 1, σ, k => f σ fun x σ' => match x with
    | .normal => iterK f n σ' k
    | x => k x σ'

theorem iterK_eq {f : St → (XA → St → Option R) → Option R} {g : St → Option (XA × St)} (h : ∀ σ k, f σ k = match g σ with
    | some (x, σ') => k x σ'
    | none => none) : ∀ (n : Nat) (σ : St) (k : XA → St → Option R), iterK f n σ k = match iterA g n σ with
    | some (x, σ') => k x σ'
    | none => none := by
  intro n
  induction n with
  | zero => intro σ k; rfl
  | succ n ih =>
    intro σ k
    unfold iterK iterA
    rw [h]
    cases g σ with
    | none => rfl
    | some y =>
      obtain ⟨x, σ'⟩ := y
      cases x with
      | normal => exact ih σ' k
      | exit id => rfl
      | ret => rfl

def codeK (P : Program) (gl : Nat → Option Nat) (reg : CallA → Array Oper → St → Option St) (call : CallA) (callK : CK R) (fuel : Nat) : Code → St → (XA → St → Option R) → Option R
  | .skip, σ, k => k .normal σ
  | .label _, σ, k => k .normal σ
  | .region _ ops false, σ, k => opsK P gl call callK ops ops.toList σ fun σ' => k .normal σ'
  | .region _ ops true, σ, k => match reg call ops σ with
    | some σ' => k .normal σ'
    | none => none
  | .seq a b, σ, k => codeK P gl reg call callK fuel a σ fun x σ' => match x with
    | .normal => codeK P gl reg call callK fuel b σ' k
    | x => k x σ'
  | .cond c t e, σ, k => match evA gl σ.T c with
    | some (.bool true) => codeK P gl reg call callK fuel t σ k
    | some (.bool false) => codeK P gl reg call callK fuel e σ k
    | _ => none
  | .block id c, σ, k => codeK P gl reg call callK fuel c σ fun x σ' => match x with
    | .exit id' => bif Nat.beq id' id then k .normal σ' else k (.exit id') σ'
    | x => k x σ'
  | .loop c, σ, k => iterK (fun σ k => codeK P gl reg call callK fuel c σ k) fuel σ k
  | .exit id, σ, k => k (.exit id) σ
  | .ret, σ, k => k .ret σ
  | _, _, _ => none

theorem codeK_eq {reg : CallA → Array Oper → St → Option St} {call : CallA} {callK : CK R} (hc : CKok call callK) (fuel : Nat) : ∀ (c : Code) (σ : St) (k : XA → St → Option R), codeK P gl reg call callK fuel c σ k = match codeA P gl reg call fuel c σ with
    | some (x, σ') => k x σ'
    | none => none := by
  intro c
  induction c with
  | skip => intro σ k; rfl
  | label => intro σ k; rfl
  | exit => intro σ k; rfl
  | ret => intro σ k; rfl
  | region id ops drawn =>
    intro σ k
    cases drawn with
    | false =>
      simp only [codeK, codeA]
      rw [opsK_eq hc]
      cases opsA P gl call ops ops.toList σ <;> rfl
    | true =>
      simp only [codeK, codeA]
      cases reg call ops σ <;> rfl
  | seq a b iha ihb =>
    intro σ k
    simp only [codeK, codeA]
    rw [iha]
    cases codeA P gl reg call fuel a σ with
    | none => rfl
    | some y =>
      obtain ⟨x, σ'⟩ := y
      cases x with
      | normal => exact ihb σ' k
      | exit id => rfl
      | ret => rfl
  | cond c t e iht ihe =>
    intro σ k
    simp only [codeK, codeA]
    generalize evA gl σ.T c = ev
    cases ev with
    | none => rfl
    | some v =>
      cases v
      case bool b =>
        cases b with
        | true => exact iht σ k
        | false => exact ihe σ k
      all_goals rfl
  | block id c ih =>
    intro σ k
    simp only [codeK, codeA]
    rw [ih]
    cases codeA P gl reg call fuel c σ with
    | none => rfl
    | some y =>
      obtain ⟨x, σ'⟩ := y
      cases x with
      | normal => rfl
      | exit id' =>
        dsimp only
        cases Nat.beq id' id <;> rfl
      | ret => rfl
  | loop c ih =>
    intro σ k
    simp only [codeK, codeA]
    exact iterK_eq ih fuel σ k
  | _ => intros; rfl

/-- What a function leaves. -/
def finK (P : Program) (fn : Func) (x : XA) (σ : St) : Option (Value × AH) :=
  match x with
  | .exit _ => none
  | _ => match σ.ds with
    | [] => match resA P σ.T σ.h fn.results.toList with
      | some vs => some (tupA vs, σ.h)
      | none => none
    | _ :: _ => none

end Go.Proofs.YtachednafdmmaaaDoor.AI
