/- The abstract interpreter: a parser's functions, which change a block of their caller's, told by plain functions of what the block holds. -/
import Derived.Test.YtachednafdmmaaaDoorAIlp
namespace Go.Proofs.YtachednafdmmaaaDoor.AI
open Go Go.RowKit
set_option linter.unusedVariables false
set_option linter.unusedSimpArgs false

/-- A word: its kind, its text, its place. -/
structure Wd where
  k : Int
  s : ByteArray
  a : Int
def flatW : List Wd → List Value
  | [] => []
  | x :: r => .int .i64 x.k :: .string x.s :: .int .i64 x.a :: flatW r
/-- A row of trees. -/
inductive NL where
  | nil
  | cons (s t : ByteArray) (n : Int) (k r : NL)
def NL.len : NL → Nat
  | .nil => 0
  | .cons _ _ _ _ r => r.len + 1
def flatN : NL → List Value
  | .nil => []
  | .cons s t n k r => .string s :: .string t :: .int .i64 n :: gslV k.len 0 false (flatN k) :: flatN r
def kv (k : NL) : Value := gslV k.len 0 false (flatN k)
def NL.snoc : NL → ByteArray → ByteArray → Int → NL → NL
  | .nil, s, t, n, k => .cons s t n k .nil
  | .cons s' t' n' k' r, s, t, n, k => .cons s' t' n' k' (r.snoc s t n k)
theorem NL.snoc_len (l : NL) (s t : ByteArray) (n : Int) (k : NL) : (l.snoc s t n k).len = l.len + 1 := by
  induction l with
  | nil => rfl
  | cons s' t' n' k' r _ ih => show (r.snoc s t n k).len + 1 = _; rw [ih]; rfl
theorem flatN_snoc (l : NL) (s t : ByteArray) (n : Int) (k : NL) : flatN (l.snoc s t n k) = flatN l ++ [.string s, .string t, .int .i64 n, kv k] := by
  induction l with
  | nil => rfl
  | cons s' t' n' k' r _ ih => show _ :: _ :: _ :: _ :: flatN (r.snoc s t n k) = _; rw [ih]; rfl
theorem flatN_len (l : NL) : (flatN l).length = 4 * l.len := by
  induction l with
  | nil => rfl
  | cons s t n k r _ ih => show (flatN r).length + 1 + 1 + 1 + 1 = 4 * (r.len + 1); omega
theorem flatW_len (l : List Wd) : (flatW l).length = 3 * l.length := by
  induction l with
  | nil => rfl
  | cons x r ih => show (flatW r).length + 1 + 1 + 1 = 3 * (r.length + 1); omega
theorem flatN_g (l : NL) : ∀ x ∈ flatN l, GVal x := by
  induction l with
  | nil => intro x hx; cases hx
  | cons s t n k r ihk ih =>
    intro x hx
    rcases List.mem_cons.1 hx with rfl | hx
    · exact .plain _ rfl
    · rcases List.mem_cons.1 hx with rfl | hx
      · exact .plain _ rfl
      · rcases List.mem_cons.1 hx with rfl | hx
        · exact .plain _ rfl
        · rcases List.mem_cons.1 hx with rfl | hx
          · exact .gsl _ _ _ _ ihk
          · exact ih x hx
theorem kv_g (k : NL) : GVal (kv k) := .gsl _ _ _ _ (flatN_g k)
/-- The same, known to have no room behind it. -/
def kx (k : NL) : Value := gslV k.len 0 true (flatN k)
theorem kx_g (k : NL) : GVal (kx k) := .gsl _ _ _ _ (flatN_g k)
theorem flatW_g (l : List Wd) : ∀ x ∈ flatW l, GVal x := by
  induction l with
  | nil => intro x hx; cases hx
  | cons w r ih =>
    intro x hx
    rcases List.mem_cons.1 hx with rfl | hx
    · exact .plain _ rfl
    · rcases List.mem_cons.1 hx with rfl | hx
      · exact .plain _ rfl
      · rcases List.mem_cons.1 hx with rfl | hx
        · exact .plain _ rfl
        · exact ih x hx
/-- How words are read. -/
structure Rd where
  n : Int
  k : Int → Int
  s : Int → ByteArray
  a : Int → Int
def rd (L : List Wd) : Rd where
  n := L.length
  k i := match L[i.toNat]? with
    | some x => x.k
    | none => 0
  s i := match L[i.toNat]? with
    | some x => x.s
    | none => ⟨⟨[]⟩⟩
  a i := match L[i.toNat]? with
    | some x => x.a
    | none => 0
/-- Is there a word? -/
def Rd.has (R : Rd) (i : Int) : Bool := decide (0 ≤ i) && decide (i < R.n)
theorem flatW_at : ∀ {L : List Wd} {j : Nat} {x : Wd}, L[j]? = some x → (flatW L)[3 * j]? = some (.int .i64 x.k) ∧ (flatW L)[3 * j + 1]? = some (.string x.s) ∧ (flatW L)[3 * j + 2]? = some (.int .i64 x.a) := by
  intro L
  induction L with
  | nil => intro j x h; simp at h
  | cons y L ih =>
    intro j x h
    cases j with
    | zero => cases h; exact ⟨rfl, rfl, rfl⟩
    | succ j =>
      obtain ⟨h1, h2, h3⟩ := ih (j := j) (x := x) (by simpa using h)
      exact ⟨h1, h2, h3⟩
theorem rd_off (i : Int) : 0 + Int.toNat i * 3 = 3 * i.toNat := by omega
theorem rd_k (L : List Wd) (i : Int) : intAt (flatW L) (0 + Int.toNat i * 3) = (rd L).k i := by
  rw [rd_off]
  show _ = match L[i.toNat]? with
    | some x => x.k
    | none => 0
  cases h : L[i.toNat]? with
  | some x => obtain ⟨h1, _, _⟩ := flatW_at h; unfold intAt; rw [h1]
  | none =>
    have : L.length ≤ i.toNat := List.getElem?_eq_none_iff.1 h
    have h1 : (flatW L)[3 * i.toNat]? = none := List.getElem?_eq_none (by rw [flatW_len]; omega)
    unfold intAt; rw [h1]
theorem rd_s (L : List Wd) (i : Int) : strAt (flatW L) (0 + Int.toNat i * 3 + 1) = (rd L).s i := by
  rw [rd_off]
  show _ = match L[i.toNat]? with
    | some x => x.s
    | none => ⟨⟨[]⟩⟩
  cases h : L[i.toNat]? with
  | some x => obtain ⟨_, h1, _⟩ := flatW_at h; unfold strAt; rw [h1]
  | none =>
    have : L.length ≤ i.toNat := List.getElem?_eq_none_iff.1 h
    have h1 : (flatW L)[3 * i.toNat + 1]? = none := List.getElem?_eq_none (by rw [flatW_len]; omega)
    unfold strAt; rw [h1]
theorem rd_a (L : List Wd) (i : Int) : intAt (flatW L) (0 + Int.toNat i * 3 + 1 + 1) = (rd L).a i := by
  rw [rd_off]
  show _ = match L[i.toNat]? with
    | some x => x.a
    | none => 0
  cases h : L[i.toNat]? with
  | some x => obtain ⟨_, _, h1⟩ := flatW_at h; unfold intAt; rw [h1]
  | none =>
    have : L.length ≤ i.toNat := List.getElem?_eq_none_iff.1 h
    have h1 : (flatW L)[3 * i.toNat + 1 + 1]? = none := List.getElem?_eq_none (by rw [flatW_len]; omega)
    unfold intAt; rw [h1]
theorem rd_if {α : Type} (L : List Wd) (i : Int) (A : Option α) : (bif decide (0 ≤ i) && decide (i < (L.length : Int)) then (bif isInt .i64 (flatW L) (0 + Int.toNat i * 3) && (isStr (flatW L) (0 + Int.toNat i * 3 + 1) && isInt .i64 (flatW L) (0 + Int.toNat i * 3 + 1 + 1)) then A else none) else none) = bif (rd L).has i then A else none := by
  show _ = bif decide (0 ≤ i) && decide (i < (L.length : Int)) then A else none
  cases h : decide (0 ≤ i) && decide (i < (L.length : Int)) with
  | false => rfl
  | true =>
    rw [Bool.and_eq_true, decide_eq_true_iff, decide_eq_true_iff] at h
    have hlt : i.toNat < L.length := by omega
    obtain ⟨h1, h2, h3⟩ := flatW_at (List.getElem?_eq_getElem hlt)
    have e1 : isInt .i64 (flatW L) (3 * i.toNat) = true := by unfold isInt; rw [h1]; exact decide_eq_true rfl
    have e2 : isStr (flatW L) (3 * i.toNat + 1) = true := by unfold isStr; rw [h2]
    have e3 : isInt .i64 (flatW L) (3 * i.toNat + 1 + 1) = true := by unfold isInt; rw [h3]; exact decide_eq_true rfl
    rw [rd_off, e1, e2, e3]; rfl

/-- What a parser's block holds: a row that nobody writes, four numbers. -/
structure PS where
  z : Nat
  w : List Value
  i : Int
  d : Int
  e : Int
  a : Int
abbrev PS.cs (s : PS) : List Value := [gslV s.z 0 false s.w, .int .i64 s.i, .int .i64 s.d, .int .i64 s.e, .int .i64 s.a]
def rdPS : List Value → Option PS
  | [.iface ty (.tuple ⟨.slice none z 0 :: .bool false :: w⟩), .int .i64 i, .int .i64 d, .int .i64 e, .int .i64 a] => bif Nat.beq ty 4294967296 then some ⟨z, w, i, d, e, a⟩ else none
  | _ => none
theorem rdPS_some {cs : List Value} {s : PS} (h : rdPS cs = some s) : cs = s.cs := by
  unfold rdPS at h
  split at h
  · rename_i ty z w i d e a
    cases hb : Nat.beq ty 4294967296 with
    | false => rw [hb] at h; cases h
    | true => rw [hb] at h; cases h; have := Nat.eq_of_beq_eq_true hb; subst this; rfl
  · cases h
/-- Arguments (behind the pointer to the block). -/
inductive PArg where
  | u
  | s (t : ByteArray)
  | i (n : Int)
  | x (c : List ByteArray)
  | f (g : FuncId)
  | r (m : Int) (g : FuncId) (c : List ByteArray)
abbrev p0 : Value := .pointer (some ⟨0, 0, none⟩)
abbrev fv (g : FuncId) : Value := .func (.func g) ⟨[p0]⟩ ⟨[]⟩
abbrev xv (c : List ByteArray) : Value := gslV c.length 0 false (c.map .string)
def PArg.enc : PArg → List Value
  | .u => []
  | .s t => [.string t]
  | .i n => [.int .i64 n]
  | .x c => [xv c]
  | .f g => [fv g]
  | .r m g c => [.int .i64 m, fv g, xv c]
def p0B : Value → Bool
  | .pointer (some ⟨0, 0, none⟩) => true
  | _ => false
theorem p0B_eq {v : Value} (h : p0B v = true) : v = p0 := by
  unfold p0B at h
  split at h
  · rfl
  · cases h
def rdT : List Value → Option (List ByteArray)
  | [] => some []
  | .string t :: r => match rdT r with
    | some l => some (t :: l)
    | none => none
  | _ :: _ => none
theorem rdT_eq : ∀ {c : List Value} {l : List ByteArray}, rdT c = some l → c = l.map .string := by
  intro c
  induction c with
  | nil => intro l h; cases h; rfl
  | cons v r ih =>
    intro l h
    unfold rdT at h
    split at h
    · rename_i h0; cases h0
    · rename_i t r' h0
      cases h0
      split at h
      · rename_i l' hl; cases h; rw [ih hl]; rfl
      · cases h
    · cases h
def rdX : Value → Option (List ByteArray)
  | .iface ty (.tuple ⟨.slice none l 0 :: .bool false :: c⟩) => bif Nat.beq ty 4294967296 then (match rdT c with
    | some t => bif Nat.beq l t.length then some t else none
    | none => none) else none
  | _ => none
theorem rdX_eq {v : Value} {t : List ByteArray} (h : rdX v = some t) : v = xv t := by
  unfold rdX at h
  split at h
  · rename_i ty l c
    cases hb : Nat.beq ty 4294967296 with
    | false => rw [hb] at h; cases h
    | true =>
      rw [hb] at h
      have := Nat.eq_of_beq_eq_true hb
      subst this
      simp only [cond_true] at h
      split at h
      · rename_i t' ht
        cases hl : Nat.beq l t'.length with
        | false => rw [hl] at h; cases h
        | true =>
          rw [hl] at h
          cases h
          have := Nat.eq_of_beq_eq_true hl
          subst this
          rw [rdT_eq ht]; rfl
      · cases h
  · cases h
def rdF : Value → Option FuncId
  | .func (.func g) ⟨[v]⟩ ⟨[]⟩ => bif p0B v then some g else none
  | _ => none
theorem rdF_eq {v : Value} {g : FuncId} (h : rdF v = some g) : v = fv g := by
  unfold rdF at h
  split at h
  · rename_i g' v'
    cases hb : p0B v' with
    | false => rw [hb] at h; cases h
    | true => rw [hb] at h; cases h; rw [p0B_eq hb]
  · cases h
def rdA1 (v : Value) : Option PArg := match v with
  | .string t => some (.s t)
  | .int .i64 n => some (.i n)
  | .func _ _ _ => match rdF v with
    | some g => some (.f g)
    | none => none
  | .iface _ _ => match rdX v with
    | some c => some (.x c)
    | none => none
  | _ => none
theorem rdA1_eq {v : Value} {x : PArg} (h : rdA1 v = some x) : [v] = x.enc := by
  unfold rdA1 at h
  split at h
  · cases h; rfl
  · cases h; rfl
  · split at h
    · rename_i g hg; cases h; rw [rdF_eq hg]; rfl
    · cases h
  · split at h
    · rename_i g hg; cases h; rw [rdX_eq hg]; rfl
    · cases h
  · cases h
def rdA3 (u v w : Value) : Option PArg := match u with
  | .int .i64 m => match rdF v with
    | some g => match rdX w with
      | some c => some (.r m g c)
      | none => none
    | none => none
  | _ => none
theorem rdA3_eq {u v w : Value} {x : PArg} (h : rdA3 u v w = some x) : [u, v, w] = x.enc := by
  unfold rdA3 at h
  split at h
  · split at h
    · rename_i g hg
      split at h
      · rename_i c hc; cases h; rw [rdF_eq hg, rdX_eq hc]; rfl
      · cases h
    · cases h
  · cases h
def rdA : List Value → Option PArg
  | [p] => bif p0B p then some .u else none
  | [p, v] => bif p0B p then rdA1 v else none
  | [p, u, v, w] => bif p0B p then rdA3 u v w else none
  | _ => none
theorem rdA_eq {ar : List Value} {x : PArg} (h : rdA ar = some x) : ar = p0 :: x.enc := by
  unfold rdA at h
  split at h
  · rename_i p
    cases hb : p0B p with
    | false => rw [hb] at h; cases h
    | true => rw [hb] at h; cases h; rw [p0B_eq hb]; rfl
  · rename_i p v
    cases hb : p0B p with
    | false => rw [hb] at h; cases h
    | true => rw [hb] at h; rw [p0B_eq hb, ← rdA1_eq h]
  · rename_i p u v w
    cases hb : p0B p with
    | false => rw [hb] at h; cases h
    | true => rw [hb] at h; rw [p0B_eq hb, ← rdA3_eq h]
  · cases h
/-- What is answered (as much of it as the function has), and what the block holds then (the row is the old one). -/
structure PR where
  b : Bool
  k : Int
  n : Int
  s : ByteArray
  t : ByteArray
  ks : NL
  i : Int
  d : Int
  e : Int
  a : Int
abbrev b0 : ByteArray := ⟨⟨[]⟩⟩
abbrev oU (i d e a : Int) : PR := ⟨false, 0, 0, b0, b0, .nil, i, d, e, a⟩
abbrev oB (b : Bool) (i d e a : Int) : PR := ⟨b, 0, 0, b0, b0, .nil, i, d, e, a⟩
abbrev oW (k : Int) (s : ByteArray) (n : Int) (i d e a : Int) : PR := ⟨false, k, n, s, b0, .nil, i, d, e, a⟩
abbrev oN (s t : ByteArray) (n : Int) (ks : NL) (i d e a : Int) : PR := ⟨false, 0, n, s, t, ks, i, d, e, a⟩
abbrev oK (ks : NL) (i d e a : Int) : PR := ⟨false, 0, 0, b0, b0, ks, i, d, e, a⟩
/-- Plain functions. -/
abbrev PF := FuncId → PArg → Int → Int → Int → Int → Option PR
/-- The forms of answers. -/
inductive PSh where
  | unit
  | bool
  | word
  | node
  | empty
  | nodes
  | nodex
  | nodesx
def PSh.mk (h : PSh) (r : PR) : Value := match h with
  | .unit => .tuple ⟨[]⟩
  | .bool => .bool r.b
  | .word => .agg ⟨[.int .i64 r.k, .string r.s, .int .i64 r.n]⟩
  | .node => .agg ⟨[.string r.s, .string r.t, .int .i64 r.n, kv r.ks]⟩
  | .empty => .agg ⟨[.string r.s, .string r.t, .int .i64 r.n, .slice none 0 0]⟩
  | .nodes => kv r.ks
  | .nodex => .agg ⟨[.string r.s, .string r.t, .int .i64 r.n, kx r.ks]⟩
  | .nodesx => kx r.ks
theorem PSh.mk_g (h : PSh) (r : PR) : GVal (h.mk r) := by
  cases h with
  | unit => exact .plainV rfl
  | bool => exact .plainV rfl
  | word => exact .plainV rfl
  | node =>
    refine .agg _ fun x hx => ?_
    have hx : x ∈ [.string r.s, .string r.t, .int .i64 r.n, kv r.ks] := hx
    simp only [List.mem_cons, List.not_mem_nil, or_false] at hx
    rcases hx with rfl | rfl | rfl | rfl
    · exact .plain _ rfl
    · exact .plain _ rfl
    · exact .plain _ rfl
    · exact kv_g _
  | empty => exact .plainV rfl
  | nodes => exact kv_g _
  | nodesx => exact kx_g _
  | nodex =>
    refine .agg _ fun x hx => ?_
    have hx : x ∈ [.string r.s, .string r.t, .int .i64 r.n, kx r.ks] := hx
    simp only [List.mem_cons, List.not_mem_nil, or_false] at hx
    rcases hx with rfl | rfl | rfl | rfl
    · exact .plain _ rfl
    · exact .plain _ rfl
    · exact .plain _ rfl
    · exact kx_g _
/-- The block's cells. -/
abbrev csP (L : List Wd) (i d e a : Int) : List Value := [gslV L.length 0 false (flatW L), .int .i64 i, .int .i64 d, .int .i64 e, .int .i64 a]
theorem csP_g (L : List Wd) (i d e a : Int) : ∀ x ∈ csP L i d e a, GVal x := by
  intro x hx
  simp only [csP, List.mem_cons, List.not_mem_nil, or_false] at hx
  rcases hx with rfl | rfl | rfl | rfl | rfl
  · exact .gsl _ _ _ _ (flatW_g L)
  all_goals exact .plain _ rfl
/-- The table of these. -/
noncomputable def tabP (sh : FuncId → PSh) (L : List Wd) (p : PF) : TabM := fun g ar cs => match rdPS cs with
  | some s => match rdA ar with
    | some x => match p g x s.i s.d s.e s.a with
      | some r => some (tst (s.z = L.length ∧ s.w = flatW L), (sh g).mk r, [gslV s.z 0 false s.w, .int .i64 r.i, .int .i64 r.d, .int .i64 r.e, .int .i64 r.a])
      | none => none
    | none => none
  | none => none
noncomputable def sumPK {R : Type} (l : VTabs) (d : FuncId → Nat) (sh : FuncId → PSh) (L : List Wd) (p : PF) : CK R := fun g ar h k =>
  bif rowsJ h 0 l then (match lentI ar with
    | some i => match h.get i with
      | some (.row false 1 cs) => match rdPS cs with
        | some s => gzL (gm (d g) h i l.length) ar fun ar' => match rdA ar' with
          | some x => Option.bind (p g x s.i s.d s.e s.a) fun r =>
            bif tst (s.z = L.length ∧ s.w = flatW L) then (bif isIn (ar.flatMap (gzI 20 (d g) h)) i then none else match killI (ar.flatMap (gzI 20 (d g) h)) h with
              | some h' => k ((sh g).mk r) (h'.put i (.row false 1 [gslV s.z 0 false s.w, .int .i64 r.i, .int .i64 r.d, .int .i64 r.e, .int .i64 r.a]))
              | none => none) else none
          | none => none
        | none => none
      | _ => none
    | none => none) else none
theorem sumPK_ok {R : Type} (l : VTabs) (d : FuncId → Nat) (sh : FuncId → PSh) (L : List Wd) (p : PF) : CKok (R := R) (sumM l d (tabP sh L p)) (sumPK l d sh L p) := by
  intro g ar h k
  rw [← sumMK_ok l d (tabP sh L p) g ar h k]
  unfold sumPK sumMK
  cases rowsJ h 0 l with
  | false => rfl
  | true =>
  dsimp only [cond_true]
  cases lentI ar with
  | none => rfl
  | some i =>
  dsimp only
  cases h.get i with
  | none => rfl
  | some bl =>
  cases bl with
  | mp ro es => rfl
  | row ro z cs =>
  cases ro with
  | true => rfl
  | false =>
  match z with
  | 0 => rfl
  | z + 2 => rfl
  | 1 =>
  show (match rdPS cs with
        | some s => gzL (gm (d g) h i l.length) ar fun ar' => match rdA ar' with
          | some x => Option.bind (p g x s.i s.d s.e s.a) fun r =>
            bif tst (s.z = L.length ∧ s.w = flatW L) then (bif isIn (ar.flatMap (gzI 20 (d g) h)) i then none else match killI (ar.flatMap (gzI 20 (d g) h)) h with
              | some h' => k ((sh g).mk r) (h'.put i (.row false 1 [gslV s.z 0 false s.w, .int .i64 r.i, .int .i64 r.d, .int .i64 r.e, .int .i64 r.a]))
              | none => none) else none
          | none => none
        | none => none) = gzL (gm (d g) h i l.length) ar fun ar' => match tabP sh L p g ar' cs with
    | some (b, v, cs') => bif b then (bif isIn (ar.flatMap (gzI 20 (d g) h)) i then none else match killI (ar.flatMap (gzI 20 (d g) h)) h with
      | some h' => k v (h'.put i (.row false 1 cs'))
      | none => none) else none
    | none => none
  rw [gmLn (d g) h i l.length ar fun ar' => match tabP sh L p g ar' cs with
    | some (b, v, cs') => bif b then (bif isIn (ar.flatMap (gzI 20 (d g) h)) i then none else match killI (ar.flatMap (gzI 20 (d g) h)) h with
      | some h' => k v (h'.put i (.row false 1 cs'))
      | none => none) else none
    | none => none]
  unfold tabP
  cases rdPS cs with
  | none => cases gzL (gm (d g) h i l.length) ar some <;> rfl
  | some s =>
    dsimp only
    rw [gmLn]
    cases gzL (gm (d g) h i l.length) ar some with
    | none => rfl
    | some ar' =>
      dsimp only
      cases rdA ar' with
      | none => rfl
      | some x =>
        dsimp only
        cases p g x s.i s.d s.e s.a <;> rfl

theorem fzBs_nat {d : Nat} {p : Nat → Bool} {h : AH} : ∀ (bs : List Blk) {R : Type} (gs : List Bool) (k : List Blk → Option R), fzBs d p h gs bs k = match fzBs d p h gs bs some with
    | some u => k u
    | none => none := by
  intro bs
  induction bs with
  | nil => intro R gs k; cases gs <;> rfl
  | cons b bs ih =>
    intro R gs k
    cases b with
    | mp ro es => cases gs with
      | nil => rfl
      | cons g gs => cases g <;> rfl
    | row ro z cs =>
      cases ro with
      | true => cases gs with
        | nil => rfl
        | cons g gs => cases g <;> rfl
      | false =>
        have mid : ∀ (gs' : List Bool), (gzL (fz 20 d p h) cs fun us => fzBs d p h gs' bs fun bs => k (.row false z us :: bs)) = match (gzL (fz 20 d p h) cs fun us => fzBs d p h gs' bs fun bs => some (.row false z us :: bs)) with
            | some u => k u
            | none => none := by
          intro gs'
          rw [gzL_nat (f1 := fz 20 d p h) (f2 := fz 20 d p h) (fun v k => fz_nat _ _ _ _ v k) (fun v k => fz_nat _ _ _ _ v k) cs, gzL_nat (f1 := fz 20 d p h) (f2 := fz 20 d p h) (fun v k => fz_nat _ _ _ _ v k) (fun v k => fz_nat _ _ _ _ v k) cs fun us => fzBs d p h gs' bs fun bs => some (.row false z us :: bs)]
          cases gzL (fz 20 d p h) cs some with
          | none => rfl
          | some us =>
            dsimp only
            rw [ih, ih gs' fun bs => some (.row false z us :: bs)]
            cases fzBs d p h gs' bs some <;> rfl
        cases gs with
        | nil => exact mid _
        | cons g gs => cases g with
          | false => exact mid _
          | true =>
            show (bif tst (∀ x ∈ cs, GVal x) then fzBs d p h gs bs fun bs => k (.row false z cs :: bs) else none) = match (bif tst (∀ x ∈ cs, GVal x) then fzBs d p h gs bs fun bs => some (.row false z cs :: bs) else none) with
              | some u => k u
              | none => none
            cases tst (∀ x ∈ cs, GVal x) with
            | false => rfl
            | true =>
              simp only [cond_true]
              rw [ih, ih gs fun bs => some (.row false z cs :: bs)]
              cases fzBs d p h gs bs some <;> rfl
theorem finM_nat {R : Type} {P : Program} {gl : Nat → Option Nat} {fn : Func} {d a k : Nat} {gs : List Bool} (fin : Value → List Blk → Option R) (x : XA) (σ : St) : finM P gl fn d a k gs fin x σ = match finM P gl fn d a k gs (fun u b => some (u, b)) x σ with
    | some (u, b) => fin u b
    | none => none := by
  unfold finM
  cases x with
  | exit id => rfl
  | normal | ret =>
    dsimp only
    cases runDs (callA P gl (regF P gl) 3 true) σ.ds σ.h with
    | none => rfl
    | some hm =>
      dsimp only
      cases resA P σ.T hm fn.results.toList with
      | none => rfl
      | some vs =>
        dsimp only
        conv => lhs; rw [fz_nat]
        conv => rhs; rw [fz_nat]
        cases fz 20 d (pN (a + k)) hm (tupA vs) some with
        | none => rfl
        | some u =>
          dsimp only
          cases picksH (upto a k) hm with
          | none => rfl
          | some bs =>
            dsimp only
            conv => lhs; rw [fzBs_nat]
            conv => rhs; rw [fzBs_nat]
            cases fzBs d (pN (a + k)) hm gs bs some <;> rfl
/-- A row of nothing, as a row that nobody writes. -/
def nilB : Value → Bool
  | .slice none 0 0 => true
  | _ => false
def nz1 (v : Value) : Value := bif nilB v then gslV 0 0 false [] else exF v
def aggB : Value → Bool
  | .agg _ => true
  | _ => false
def aggL : Value → List Value
  | .agg ⟨l⟩ => l
  | _ => []
def nzM : List Value → List Value
  | [] => []
  | v :: r => nz1 v :: nzM r
def nz (v : Value) : Value := bif aggB v then .agg ⟨nzM (aggL v)⟩ else nz1 v
theorem nz1_rel {μ : Mu} {n : Nat} {v c : Value} (h : VRel μ n v c) : VRel μ n (nz1 v) c := by
  unfold nz1
  cases hb : nilB v with
  | false => exact h.exF
  | true =>
    unfold nilB at hb
    split at hb
    · rw [h.plain_eq' rfl]
      exact .gsl 0 0 false [] none 0 0 0 #[] (fun h => by cases h) (Nat.le_refl 0) (fun p h => by cases h) (fun _ => rfl) (fun h => absurd rfl h) (fun j x y h => absurd rfl h)
    · cases hb
theorem nzM_rel {μ : Mu} {n : Nat} : ∀ {l : List Value} {ys : List Value}, ys.length = l.length → (∀ (i : Nat) (x y : Value), l[i]? = some x → ys[i]? = some y → VRel μ n x y) → ys.length = (nzM l).length ∧ ∀ (i : Nat) (x y : Value), (nzM l)[i]? = some x → ys[i]? = some y → VRel μ n x y := by
  intro l
  induction l with
  | nil => intro ys h h2; exact ⟨h, h2⟩
  | cons v r ih =>
    intro ys h h2
    cases ys with
    | nil => cases h
    | cons y ys =>
      obtain ⟨e1, e2⟩ := ih (ys := ys) (by simpa using h) fun i x y hx hy => h2 (i + 1) x y (by simpa using hx) (by simpa using hy)
      refine ⟨by show ys.length + 1 = (nzM r).length + 1; rw [e1], fun i x y' hx hy => ?_⟩
      cases i with
      | zero => cases hx; cases hy; exact nz1_rel (h2 0 v y rfl rfl)
      | succ i => exact e2 i x y' hx hy
theorem nz_rel {μ : Mu} {n : Nat} {v c : Value} (h : VRel μ n v c) : VRel μ n (nz v) c := by
  unfold nz
  cases hb : aggB v with
  | false => exact nz1_rel h
  | true =>
    cases v with
    | agg k =>
      obtain ⟨ys, rfl, hl⟩ := h.aggI
      obtain ⟨e1, e2⟩ := nzM_rel (l := k.toList) (ys := ys.toList) hl.1.symm hl.2
      exact .agg _ ys e1.symm e2
    | _ => cases hb
theorem nz1_gv {v : Value} (h : GVal (nz1 v)) : GVal v := by
  unfold nz1 at h
  cases hb : nilB v with
  | false => rw [hb] at h; exact exF_gv h
  | true =>
    unfold nilB at hb
    split at hb
    · exact .plain _ rfl
    · cases hb
theorem nzM_gv : ∀ {l : List Value}, (∀ x ∈ nzM l, GVal x) → ∀ x ∈ l, GVal x := by
  intro l
  induction l with
  | nil => intro _ x hx; cases hx
  | cons v r ih =>
    intro h x hx
    rcases List.mem_cons.1 hx with rfl | hx
    · exact nz1_gv (h _ List.mem_cons_self)
    · exact ih (fun y hy => h y (List.mem_cons_of_mem _ hy)) x hx
theorem nz_gv {v : Value} (h : GVal (nz v)) : GVal v := by
  unfold nz at h
  cases hb : aggB v with
  | false => rw [hb] at h; exact nz1_gv h
  | true =>
    rw [hb] at h
    cases v with
    | agg k =>
      refine .agg k (nzM_gv ?_)
      cases h with
      | plain _ hp => cases hp
      | agg _ h => exact h
    | _ => cases hb
/-- A run, its answer's rows of nothing told as such. -/
noncomputable def runZ (P : Program) (l : VTabs) (bs : List Blk) (call : CallA) (callK : CK (Value × List Blk)) (LK : LoopK (Value × List Blk)) (d : Nat) (gs : List Bool) (fn : Func) (ar : List Value) : Option (Value × List Blk) :=
  codeG P (glV l) call callK LK (bodyOf fn) ⟨argsT 0 ar .nil, ar.length + (fn.ntmps - ar.length), mkHV l bs, []⟩ (finM P (glV l) fn d l.length bs.length gs fun u bs1 => some (nz u, bs1))
theorem runZ_some {P : Program} {l : VTabs} {bs : List Blk} {call : CallA} {callK : CK (Value × List Blk)} {LO : LoopA} {LK : LoopK (Value × List Blk)} (hK : CKok call callK) (hL : LKok LO LK) {d : Nat} {gs : List Bool} {fn : Func} {ar : List Value} {v : Value} {bs' : List Blk}
    (h : runZ P l bs call callK LK d gs fn ar = some (v, bs')) : ∃ u, runM P l bs call callK LK d gs fn ar = some (u, bs') ∧ v = nz u := by
  unfold runZ at h
  unfold runM
  rw [codeG_eq hK hL] at h ⊢
  split at h
  · rename_i x σ hc
    rw [finM_nat] at h
    split at h
    · rename_i u b hf
      cases h
      exact ⟨u, hf, rfl⟩
    · cases h
  · cases h
theorem conZ {P : Program} {l : VTabs} (hG : GTab l) {bs : List Blk} (hE0 : ∀ b ∈ bs, b.ro = false) {call : CallA} (hm : P.follows .mixedOrders = true) (hcall : CallOK P (glV l) call) {callK : CK (Value × List Blk)} (hK : CKok call callK) {LO : LoopA} {LK : LoopK (Value × List Blk)} (hL : LKok LO LK) {d : Nat} {gs : List Bool} {g : FuncId} {fn : Func} {c : Code} {ar : List Value} {v : Value} {bs' : List Blk}
    (hfn : P.funcs[g]? = some fn) (hb : fn.body = some c) (hname : (fn.name == "runtime.NumGoroutine") = false) (hLO : LoopsOK P (glV l) (mkHV l bs) LO (loopsOf (bodyOf fn))) (hrun : runZ P l bs call callK LK d gs fn ar = some (v, bs'))
    (hv : GVal v) (hbs' : ∀ z cs, Blk.row false z cs ∈ bs' → ∀ x ∈ cs, GVal x) : ConM P l bs g ar v bs' := by
  obtain ⟨u, hr, rfl⟩ := runZ_some hK hL hrun
  have hu : GVal u := nz_gv hv
  have := conM hG hE0 hm hcall hK hL hfn hb hname hLO hr hu hbs'
  intro μ w args hh hargs
  refine (this μ w args hh hargs).mono ?_
  rintro e w' ⟨c, μ', e1, e2, e3, e4⟩
  exact ⟨c, μ', e1, e2, e3, nz_rel e4⟩

/-- What is asked of plain functions. -/
def PFok (P : Program) (l : VTabs) (sh : FuncId → PSh) (L : List Wd) (p : PF) : Prop := TabMOK P l (tabP sh L p)
/-- A function's part of that. -/
def FPok (P : Program) (l : VTabs) (sh : FuncId → PSh) (L : List Wd) (k : FuncId) (f : PArg → Int → Int → Int → Int → Option PR) : Prop := ∀ (x : PArg) (i d e a : Int) (r : PR), f x i d e a = some r →
  ConM P l [.row false 1 (csP L i d e a)] k (p0 :: x.enc) ((sh k).mk r) [.row false 1 (csP L r.i r.d r.e r.a)]
def noP : PF := fun _ _ _ _ _ _ => none
def andP (k : FuncId) (f : PArg → Int → Int → Int → Int → Option PR) (q : PF) : PF := fun g x i d e a => bif Nat.beq g k then f x i d e a else q g x i d e a
variable {P : Program}
theorem noP_ok {l : VTabs} {sh : FuncId → PSh} {L : List Wd} : PFok P l sh L noP := by
  intro g ar cs v cs' h
  unfold tabP at h
  split at h
  · split at h
    · cases h
    · cases h
  · cases h
theorem andP_ok {l : VTabs} {sh : FuncId → PSh} {L : List Wd} {k : FuncId} {f : PArg → Int → Int → Int → Int → Option PR} {q : PF} {fn : Func} {c : Code} (hfn : P.funcs[k]? = some fn) (hb : fn.body = some c) (hname : (fn.name == "runtime.NumGoroutine") = false)
    (hf : FPok P l sh L k f) (hq : PFok P l sh L q) : PFok P l sh L (andP k f q) := by
  intro g ar cs v cs' h
  cases hk : Nat.beq g k with
  | false =>
    refine hq g ar cs v cs' ?_
    unfold tabP at h ⊢
    unfold andP at h
    rw [hk] at h
    exact h
  | true =>
    have hg : g = k := Nat.eq_of_beq_eq_true hk
    subst hg
    unfold tabP andP at h
    rw [hk] at h
    simp only [cond_true] at h
    split at h
    · rename_i s hs
      split at h
      · rename_i x hx
        split at h
        · rename_i r hr
          simp only [Option.some.injEq, Prod.mk.injEq] at h
          obtain ⟨ht, rfl, rfl⟩ := h
          obtain ⟨e1, e2⟩ := of_tst ht
          have := hf x s.i s.d s.e s.a r hr
          rw [rdPS_some hs, rdA_eq hx]
          show _ ∧ _ ∧ (∀ x ∈ [gslV s.z 0 false s.w, _, _, _, _], GVal x) ∧ _ ∧ ConM P l [.row false 1 [gslV s.z 0 false s.w, _, _, _, _]] g _ _ _
          rw [e1, e2]
          exact ⟨fun args w => callFunc_enter hfn hname hb args w, PSh.mk_g _ _, csP_g L _ _ _ _, csP_g L _ _ _ _, this⟩
        · cases h
      · cases h
    · cases h
/-- The noise of a run. -/
theorem intAt_1 (x : Value) (i : Int) (r : List Value) : intAt (x :: .int .i64 i :: r) 1 = i := rfl
theorem intAt_2 (x y : Value) (i : Int) (r : List Value) : intAt (x :: y :: .int .i64 i :: r) 2 = i := rfl
theorem intAt_3 (x y z : Value) (i : Int) (r : List Value) : intAt (x :: y :: z :: .int .i64 i :: r) 3 = i := rfl
theorem intAt_4 (x y z w : Value) (i : Int) (r : List Value) : intAt (x :: y :: z :: w :: .int .i64 i :: r) 4 = i := rfl
theorem tst_two {α β : Type} (x : α) (y : β) : tst (x = x ∧ y = y) = true := tst_of ⟨rfl, rfl⟩
theorem tst_csP (L : List Wd) (i d e a : Int) : tst (∀ (x : Value), x ∈ [gslV L.length 0 false (flatW L), .int .i64 i, .int .i64 d, .int .i64 e, .int .i64 a] → GVal x) = true := tst_of (csP_g L i d e a)
/-- A run's answer, out of a plain function's. -/
def ofP (L : List Wd) (h : PSh) (o : Option PR) : Option (Value × List Blk) := o.map fun r => (h.mk r, [.row false 1 (csP L r.i r.d r.e r.a)])
theorem of_U (L : List Wd) (i d e a : Int) : some ((.tuple ⟨[]⟩ : Value), [Blk.row false 1 [gslV L.length 0 false (flatW L), .int .i64 i, .int .i64 d, .int .i64 e, .int .i64 a]]) = ofP L .unit (some (oU i d e a)) := rfl
theorem of_B (L : List Wd) (b : Bool) (i d e a : Int) : some ((.bool b : Value), [Blk.row false 1 [gslV L.length 0 false (flatW L), .int .i64 i, .int .i64 d, .int .i64 e, .int .i64 a]]) = ofP L .bool (some (oB b i d e a)) := rfl
theorem of_W (L : List Wd) (k : Int) (s : ByteArray) (n : Int) (i d e a : Int) : some ((.agg ⟨[.int .i64 k, .string s, .int .i64 n]⟩ : Value), [Blk.row false 1 [gslV L.length 0 false (flatW L), .int .i64 i, .int .i64 d, .int .i64 e, .int .i64 a]]) = ofP L .word (some (oW k s n i d e a)) := rfl
theorem of_N (L : List Wd) (s t : ByteArray) (n : Int) (ks : NL) (i d e a : Int) : some ((.agg ⟨[.string s, .string t, .int .i64 n, kv ks]⟩ : Value), [Blk.row false 1 [gslV L.length 0 false (flatW L), .int .i64 i, .int .i64 d, .int .i64 e, .int .i64 a]]) = ofP L .node (some (oN s t n ks i d e a)) := rfl
theorem of_E (L : List Wd) (s t : ByteArray) (n : Int) (i d e a : Int) : some ((.agg ⟨[.string s, .string t, .int .i64 n, .slice none 0 0]⟩ : Value), [Blk.row false 1 [gslV L.length 0 false (flatW L), .int .i64 i, .int .i64 d, .int .i64 e, .int .i64 a]]) = ofP L .empty (some (oN s t n .nil i d e a)) := rfl
theorem of_K (L : List Wd) (ks : NL) (i d e a : Int) : some (kv ks, [Blk.row false 1 [gslV L.length 0 false (flatW L), .int .i64 i, .int .i64 d, .int .i64 e, .int .i64 a]]) = ofP L .nodes (some (oK ks i d e a)) := rfl
theorem of_bind (L : List Wd) (h : PSh) (m : Option PR) (k : PR → Option PR) : (Option.bind m fun r => ofP L h (k r)) = ofP L h (Option.bind m k) := by cases m <;> rfl
theorem of_cond (L : List Wd) (h : PSh) (c : Bool) (x y : Option PR) : (bif c then ofP L h x else ofP L h y) = ofP L h (bif c then x else y) := by cases c <;> rfl
theorem of_condN (L : List Wd) (h : PSh) (c : Bool) (x : Option PR) : (bif c then ofP L h x else none) = ofP L h (bif c then x else none) := by cases c <;> rfl
theorem of_condM (L : List Wd) (h : PSh) (c : Bool) (x : Option PR) : (bif c then none else ofP L h x) = ofP L h (bif c then none else x) := by cases c <;> rfl
theorem gF (l o : Nat) (ex : Bool) (c : List Value) : Value.iface 4294967296 (.tuple ⟨.slice none l o :: .bool ex :: c⟩) = gslV l o ex c := rfl
theorem of_NX (L : List Wd) (s t : ByteArray) (n : Int) (ks : NL) (i d e a : Int) : some ((.agg ⟨[.string s, .string t, .int .i64 n, kx ks]⟩ : Value), [Blk.row false 1 [gslV L.length 0 false (flatW L), .int .i64 i, .int .i64 d, .int .i64 e, .int .i64 a]]) = ofP L .nodex (some (oN s t n ks i d e a)) := rfl
theorem of_KX (L : List Wd) (ks : NL) (i d e a : Int) : some (kx ks, [Blk.row false 1 [gslV L.length 0 false (flatW L), .int .i64 i, .int .i64 d, .int .i64 e, .int .i64 a]]) = ofP L .nodesx (some (oK ks i d e a)) := rfl
theorem kxF (k : NL) : gslV k.len 0 true (flatN k) = kx k := rfl
theorem kx1 (s t : ByteArray) (n : Int) (k : NL) : gslV 1 0 true [.string s, .string t, .int .i64 n, kv k] = kx (.cons s t n k .nil) := rfl
theorem kx2 (s t : ByteArray) (n : Int) (k : NL) (s' t' : ByteArray) (n' : Int) (k' : NL) : gslV 2 0 true [.string s, .string t, .int .i64 n, kv k, .string s', .string t', .int .i64 n', kv k'] = kx (.cons s t n k (.cons s' t' n' k' .nil)) := rfl
theorem exK (k : NL) : exF (kx k) = kv k := rfl
theorem nfX (k : NL) : nf (kx k) = kv k := rfl
theorem kvF (k : NL) : gslV k.len 0 false (flatN k) = kv k := rfl
theorem kv0 : gslV 0 0 false [] = kv .nil := rfl
theorem kv1 (s t : ByteArray) (n : Int) (k : NL) : gslV 1 0 false [.string s, .string t, .int .i64 n, kv k] = kv (.cons s t n k .nil) := rfl
theorem kv2 (s t : ByteArray) (n : Int) (k : NL) (s' t' : ByteArray) (n' : Int) (k' : NL) : gslV 2 0 false [.string s, .string t, .int .i64 n, kv k, .string s', .string t', .int .i64 n', kv k'] = kv (.cons s t n k (.cons s' t' n' k' .nil)) := rfl
theorem kv3 (s t : ByteArray) (n : Int) (k : NL) (s' t' : ByteArray) (n' : Int) (k' : NL) (s'' t'' : ByteArray) (n'' : Int) (k'' : NL) : gslV 3 0 false [.string s, .string t, .int .i64 n, kv k, .string s', .string t', .int .i64 n', kv k', .string s'', .string t'', .int .i64 n'', kv k''] = kv (.cons s t n k (.cons s' t' n' k' (.cons s'' t'' n'' k'' .nil))) := rfl
theorem fl1 (k : NL) : Nat.ble (0 + NL.len k * 4) (List.length (flatN k)) = true := by rw [flatN_len]; exact Nat.ble_eq_true_of_le (by omega)
theorem fl2 (k : NL) : List.take (NL.len k * 4) (flatN k) = flatN k := List.take_of_length_le (by rw [flatN_len]; omega)
theorem fl3 (s t : ByteArray) (n : Int) (k0 k : NL) : tst (∀ (x : Value), x ∈ .string s :: .string t :: .int .i64 n :: kv k0 :: flatN k → GVal x) = true := tst_of (flatN_g (.cons s t n k0 k))
theorem fl4 (k : NL) : List.map nf (flatN k) = flatN k := by
  induction k with
  | nil => rfl
  | cons s t n k r _ ih => show _ :: _ :: _ :: _ :: List.map nf (flatN r) = _; rw [ih]; rfl
theorem fl5 (s t : ByteArray) (n : Int) (k0 k : NL) : gslV (1 + NL.len k) 0 false (.string s :: .string t :: .int .i64 n :: kv k0 :: flatN k) = kv (.cons s t n k0 k) := by rw [Nat.add_comm]; rfl
theorem of_bindN {α : Type} (m : Option PR) : (Option.bind m fun _ => (none : Option α)) = none := by cases m <;> rfl
theorem of_condZ {α : Type} (c : Bool) : (bif c then (none : Option α) else none) = none := by cases c <;> rfl
theorem nfS (s : ByteArray) : nf (.string s) = .string s := rfl
theorem nfI (n : Int) : nf (.int .i64 n) = .int .i64 n := rfl
theorem nfK (k : NL) : nf (kv k) = kv k := rfl
theorem nfZ : nf (.slice none 0 0) = kv .nil := rfl
theorem ofP_some {L : List Wd} {h : PSh} {o : Option PR} {r : PR} (ho : o = some r) : ofP L h o = some (h.mk r, [.row false 1 (csP L r.i r.d r.e r.a)]) := by rw [ho]; rfl

end Go.Proofs.YtachednafdmmaaaDoor.AI
