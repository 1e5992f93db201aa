/- The parser. -/
import Derived.Test.YtachednafdmmaaaDoorProg
import Derived.Test.YtachednafdmmaaaDoorAIlr
import Derived.KernelRfl
namespace Go.Proofs.YtachednafdmmaaaDoor.AI
open Go Go.RowKit 
set_option linter.unusedVariables false
set_option linter.unusedSimpArgs false
theorem hmix : Tryd.prog.follows .mixedOrders = true := by kernel_rfl
abbrev iv (n : Int) : Value := .int .i64 n
abbrev lq0 : VTabs := []
theorem lq0_g : GTab lq0 := fun x hx => by cases hx
/-- The forms of the parser's answers. -/
def sh : FuncId → PSh := fun g => match g with
  | 13 => .node
  | 22 => .empty
  | 23 => .word
  | 24 => .node
  | 34 => .bool
  | 35 => .word
  | 36 => .word
  | 37 => .bool
  | 38 => .nodex
  | 39 => .nodes
  | 40 => .unit
  | 44 => .word
  | 46 => .node
  | 47 => .nodes
  | 48 => .node
  | 49 => .node
  | 50 => .node
  | 58 => .unit
  | 59 => .unit
  | 60 => .node
  | 64 => .node
  | 65 => .nodesx
  | 66 => .node
  | 67 => .node
  | 69 => .node
  | 70 => .node
  | 72 => .node
  | 77 => .node
  | 83 => .node
  | 86 => .node
  | 87 => .node
  | 88 => .node
  | 89 => .node
  | _ => .unit
/-- A function's own code, gone into once; its calls by another table; no loops. -/
noncomputable def lvA (P : Program) (gl : Nat → Option Nat) (call : CallA) : CallA := fun g ar h => match P.funcs[g]? with
  | none => none
  | some fn => match fn.body with
    | none => none
    | some c => bif fn.name == "runtime.NumGoroutine" then none else match codeB P gl (regF P gl) call noLO c ⟨argsT 0 ar .nil, ar.length + (fn.ntmps - ar.length), h, []⟩ with
      | some (x, σ) => finK P fn x σ
      | none => none
noncomputable def lvK {R : Type} (P : Program) (gl : Nat → Option Nat) (call : CallA) (callK : CK R) : CK R := fun g ar h k => match P.funcs[g]? with
  | none => none
  | some fn => match fn.body with
    | none => none
    | some c => bif fn.name == "runtime.NumGoroutine" then none else codeG P gl call callK noLK c ⟨argsT 0 ar .nil, ar.length + (fn.ntmps - ar.length), h, []⟩ fun x σ => finKK P fn x σ k
theorem lvK_ok {R : Type} {P : Program} {gl : Nat → Option Nat} {call : CallA} {callK : CK R} (hc : CKok call callK) : CKok (lvA P gl call) (lvK P gl call callK) := by
  intro g ar h k
  unfold lvA lvK
  cases P.funcs[g]? with
  | none => rfl
  | some fn =>
    dsimp only
    cases fn.body with
    | none => rfl
    | some c =>
      dsimp only
      cases fn.name == "runtime.NumGoroutine" with
      | true => rfl
      | false =>
        simp only [cond_false]
        rw [codeG_eq hc noLK_ok]
        cases codeB P gl (regF P gl) call noLO c ⟨argsT 0 ar .nil, ar.length + (fn.ntmps - ar.length), h, []⟩ with
        | none => rfl
        | some y => obtain ⟨x, σ⟩ := y; exact finKK_eq P fn x σ k
theorem lvA_ok {P : Program} {gl : Nat → Option Nat} (hm : P.follows .mixedOrders = true) {call : CallA} (hcall : CallOK P gl call) : CallOK P gl (lvA P gl call) := by
  intro g ar h v h' hc
  unfold lvA at hc
  split at hc
  · cases hc
  · rename_i fn hfn
    split at hc
    · cases hc
    · rename_i c hb
      cases hname : (fn.name == "runtime.NumGoroutine") with
      | true => rw [hname] at hc; cases hc
      | false =>
        rw [hname] at hc
        simp only [cond_false] at hc
        refine oneB_ok (regF_ok hm) hcall (toK_ok call) (toLK_ok noLO) noLO_ok hfn hb hname ?_
        rw [codeBK_eq (toK_ok call) (toLK_ok noLO)]
        exact hc
/-- A function's own code, gone into once; its calls by another table; loops unrolled. -/
noncomputable def lwA (P : Program) (gl : Nat → Option Nat) (n : Nat) (call : CallA) : CallA := fun g ar h => match P.funcs[g]? with
  | none => none
  | some fn => match fn.body with
    | none => none
    | some c => bif fn.name == "runtime.NumGoroutine" then none else match codeB P gl (regF P gl) call (loIt P gl call noLO n) c ⟨argsT 0 ar .nil, ar.length + (fn.ntmps - ar.length), h, []⟩ with
      | some (x, σ) => finK P fn x σ
      | none => none
noncomputable def lwK {R : Type} (P : Program) (gl : Nat → Option Nat) (n : Nat) (call : CallA) (callK : CK R) : CK R := fun g ar h k => match P.funcs[g]? with
  | none => none
  | some fn => match fn.body with
    | none => none
    | some c => bif fn.name == "runtime.NumGoroutine" then none else codeG P gl call callK (lkIt P gl call callK noLK n) c ⟨argsT 0 ar .nil, ar.length + (fn.ntmps - ar.length), h, []⟩ fun x σ => finKK P fn x σ k
theorem lwK_ok {R : Type} {P : Program} {gl : Nat → Option Nat} {call : CallA} {callK : CK R} (n : Nat) (hc : CKok call callK) : CKok (lwA P gl n call) (lwK P gl n call callK) := by
  intro g ar h k
  unfold lwA lwK
  cases P.funcs[g]? with
  | none => rfl
  | some fn =>
    dsimp only
    cases fn.body with
    | none => rfl
    | some c =>
      dsimp only
      cases fn.name == "runtime.NumGoroutine" with
      | true => rfl
      | false =>
        simp only [cond_false]
        rw [codeG_eq hc (lkIt_ok hc noLK_ok n)]
        cases codeB P gl (regF P gl) call (loIt P gl call noLO n) c ⟨argsT 0 ar .nil, ar.length + (fn.ntmps - ar.length), h, []⟩ with
        | none => rfl
        | some y => obtain ⟨x, σ⟩ := y; exact finKK_eq P fn x σ k
theorem lwA_ok {P : Program} {gl : Nat → Option Nat} (hm : P.follows .mixedOrders = true) {call : CallA} (n : Nat) (hcall : CallOK P gl call) : CallOK P gl (lwA P gl n call) := by
  intro g ar h v h' hc
  unfold lwA at hc
  split at hc
  · cases hc
  · rename_i fn hfn
    split at hc
    · cases hc
    · rename_i c hb
      cases hname : (fn.name == "runtime.NumGoroutine") with
      | true => rw [hname] at hc; cases hc
      | false =>
        rw [hname] at hc
        simp only [cond_false] at hc
        refine oneB_ok (regF_ok hm) hcall (toK_ok call) (toLK_ok (loIt P gl call noLO n)) (loIt_ok hm hcall (fun _ _ => noLO_ok) n) hfn hb hname ?_
        rw [codeBK_eq (toK_ok call) (toLK_ok (loIt P gl call noLO n))]
        exact hc
abbrev st (l : List UInt8) : Value := .string ⟨⟨l⟩⟩
noncomputable abbrev qA (F : TabF) (ins : List Nat) : CallA := mixA ins (callA Tryd.prog (glV lq0) (regF Tryd.prog (glV lq0)) 8 false) (sumQ (glV lq0) lq0 (fun _ => 1) F)
noncomputable abbrev qK {R : Type} (F : TabF) (ins : List Nat) : CK R := mixK ins (inK Tryd.prog (glV lq0) (regF Tryd.prog (glV lq0)) 8) (sumQK (glV lq0) lq0 (fun _ => 1) F)
theorem qA_ok {F : TabF} (hF : TabQ Tryd.prog lq0 F) (ins : List Nat) : CallOK Tryd.prog (glV lq0) (qA F ins) := mixA_ok (callA_ok (regF_ok hmix) 8).1 (sumQ_ok lq0_g _ hF)
theorem qK_ok {R : Type} (F : TabF) (ins : List Nat) : CKok (R := R) (qA F ins) (qK F ins) := mixK_ok (inK_ok 8) (sumQK_ok _ _ _ _)
noncomputable abbrev RF (F : TabF) (ins : List Nat) (LK : LoopK Value) (fn : Func) (ar : List Value) : Option Value := runQ Tryd.prog lq0 (qA F ins) (qK F ins) LK 1 fn ar
/-- Where a text stands (the length: nowhere). -/
def idxS (t : List UInt8) : List (List UInt8) → Nat
  | [] => 0
  | s :: L => if t = s then 0 else idxS t L + 1
theorem idxS_cons (t s : List UInt8) (L : List (List UInt8)) : idxS t (s :: L) = if t = s then 0 else idxS t L + 1 := rfl
theorem idxS_le (t : List UInt8) : ∀ L, idxS t L ≤ L.length := by
  intro L
  induction L with
  | nil => exact Nat.le_refl _
  | cons s L ih => rw [idxS_cons]; split <;> simp <;> omega
theorem idxS_lt {t : List UInt8} : ∀ {L : List (List UInt8)}, idxS t L < L.length ↔ t ∈ L := by
  intro L
  induction L with
  | nil => simp [idxS]
  | cons s L ih =>
    rw [idxS_cons]
    by_cases e : t = s
    · rw [if_pos e]; simp [e]
    · rw [if_neg e]
      simp only [List.length_cons, List.mem_cons, e, false_or]
      rw [← ih]; omega
theorem idxS_at {t : List UInt8} : ∀ {L : List (List UInt8)} {k : Nat} {s : List UInt8}, L[k]? = some s → (k < idxS t L → t ≠ s) ∧ (k = idxS t L → t = s) := by
  intro L
  induction L with
  | nil => intro k s h; simp at h
  | cons u L ih =>
    intro k s h
    rw [idxS_cons]
    by_cases e : t = u
    · rw [if_pos e]
      refine ⟨fun h => absurd h (Nat.not_lt_zero _), fun hk => ?_⟩
      subst hk
      cases h; exact e
    · rw [if_neg e]
      cases k with
      | zero =>
        cases h
        exact ⟨fun _ => e, fun h => by omega⟩
      | succ k =>
        obtain ⟨h1, h2⟩ := ih (by simpa using h)
        exact ⟨fun h => h1 (by omega), fun h => h2 (by omega)⟩
abbrev v57 (n : Nat) (cs : List Value) (t : List UInt8) (r i : Int) : List Value := [gslV n 0 false cs, st t, iv r, iv n, iv i]
theorem t57 (n : Nat) (cs : List Value) (t : List UInt8) (r i : Int) : bodyRunK Tryd.prog (glV lq0) (qA noG []) (qK noG []) noLK (loopN Tryd.f57 0) (stT [0,1,4,7,8] (v57 n cs t r i) 19 (hV lq0)) [0,1,4,7,8] =
  bif decide (i < (n : Int)) then bif decide (0 ≤ i) && decide (i < (n : Int)) then bif isStr cs (0 + Int.toNat i * 1) then bif t == (strAt cs (0 + Int.toNat i * 1)).data.toList then some (XA.ret, v57 n cs t i i, hV lq0, 19) else some (XA.normal, v57 n cs t r (IntKind.wrap IntKind.i64 (i + 1)), hV lq0, 19) else none else none else some (XA.exit 0, v57 n cs t r i, hV lq0, 19) := by kernel_rfl
def x57 (b : Bool) : XA := bif b then .ret else .exit 0
theorem lp57 (L : List (List UInt8)) (hL : L.length ≤ 4294967296) (t : List UInt8) : LoopTri Tryd.prog (glV lq0) (hV lq0) (loopN Tryd.f57 0) (stT [0,1,4,7,8] (v57 L.length (L.map st) t 0 0) 19 (hV lq0)) (x57 (decide (t ∈ L)))
    (stT [0,1,4,7,8] (v57 L.length (L.map st) t (if t ∈ L then (idxS t L : Nat) else 0) ((idxS t L : Nat) : Int)) 19 (hV lq0)) := by
  have hl : LoopsOK Tryd.prog (glV lq0) (hV lq0) noLO (loopsOf (loopN Tryd.f57 0)) := noLO_ok
  have hle := idxS_le t L
  have := loop_plainO hmix (qA_ok noQ_ok []) (qK_ok noG []) noLK_ok hl [0,1,4,7,8] (X := {k : Nat // k ≤ idxS t L}) (fun k => v57 L.length (L.map st) t 0 (k.1 : Int)) (fun k => idxS t L - k.1)
    (fun _ => (x57 (decide (t ∈ L)), v57 L.length (L.map st) t (if t ∈ L then (idxS t L : Nat) else 0) ((idxS t L : Nat) : Int))) (n := 19) (h := hV lq0) ?_ ⟨0, Nat.zero_le _⟩
  · exact this
  · rintro ⟨k, hk⟩
    dsimp only
    have hr := t57 L.length (L.map st) t 0 (k : Int)
    have c9 : IntKind.wrap IntKind.i64 ((k : Int) + 1) = ((k + 1 : Nat) : Int) := by rw [i64w]; omega
    by_cases hlt : k < L.length
    · obtain ⟨s, hs⟩ : ∃ s, L[k]? = some s := ⟨_, List.getElem?_eq_getElem hlt⟩
      have hm : (L.map st)[0 + Int.toNat (k : Int) * 1]? = some (st s) := by
        rw [Int.toNat_natCast, Nat.zero_add, Nat.mul_one, List.getElem?_map, hs]; rfl
      have e1 : isStr (L.map st) (0 + Int.toNat (k : Int) * 1) = true := by unfold isStr; rw [hm]
      have e2 : strAt (L.map st) (0 + Int.toNat (k : Int) * 1) = ⟨⟨s⟩⟩ := by unfold strAt; rw [hm]
      obtain ⟨a1, a2⟩ := idxS_at hs (t := t)
      rw [decide_eq_true (show (k : Int) < (L.length : Int) by omega), decide_eq_true (show (0 : Int) ≤ (k : Int) by omega), e1, e2, c9] at hr
      by_cases e : t = s
      · have hki : k = idxS t L := by
          by_cases h2 : k < idxS t L
          · exact absurd e (a1 h2)
          · omega
        have hin : t ∈ L := e ▸ List.mem_of_getElem? hs
        rw [show (t == s) = true by rw [beq_iff_eq]; exact e] at hr
        refine ⟨_, _, hr, .inr ⟨by simp, ?_⟩⟩
        rw [if_pos hin, decide_eq_true hin, ← hki]; rfl
      · have hki : k < idxS t L := by
          by_cases h2 : k = idxS t L
          · exact absurd (a2 h2) e
          · omega
        rw [show (t == s) = false by rw [beq_eq_false_iff_ne]; exact e] at hr
        exact ⟨_, _, hr, .inl ⟨rfl, ⟨k + 1, hki⟩, rfl, by dsimp only; omega, rfl⟩⟩
    · have hnin : t ∉ L := fun h => by have := idxS_lt.2 h; omega
      have hki : k = idxS t L := by
        have : ¬ idxS t L < L.length := fun h => hnin (idxS_lt.1 h)
        omega
      rw [decide_eq_false (show ¬ (k : Int) < (L.length : Int) by omega)] at hr
      refine ⟨_, _, hr, .inr ⟨by simp, ?_⟩⟩
      rw [if_neg hnin, decide_eq_false hnin, ← hki]; rfl
noncomputable abbrev lo57 (n : Nat) (cs : List Value) (t : List UInt8) (x : XA) (r i : Int) : LoopA := loV lq0 2 [0,1,4,7,8] (v57 n cs t 0 0) (v57 n cs t r i) 19 x noLO
theorem index_con (L : List (List UInt8)) (hL : L.length ≤ 4294967296) (t : List UInt8) : ConQ Tryd.prog lq0 57 [gslV L.length 0 false (L.map st), st t] (iv (if t ∈ L then ((idxS t L : Nat) : Int) else -1)) := by
  have hlp := lp57 L hL t
  have e : loopsOf (bodyOf Tryd.f57) = [loopN Tryd.f57 0] := by kernel_rfl
  have ht : tst (v57 L.length (L.map st) t 0 0 = v57 L.length (L.map st) t 0 0 ∧ hV lq0 = hV lq0 ∧ 19 = 19) = true := tst_of ⟨rfl, rfl, rfl⟩
  have hlo : ∀ x r i, LoopTri Tryd.prog (glV lq0) (hV lq0) (loopN Tryd.f57 0) (stT [0,1,4,7,8] (v57 L.length (L.map st) t 0 0) 19 (hV lq0)) x (stT [0,1,4,7,8] (v57 L.length (L.map st) t r i) 19 (hV lq0)) →
      LoopsOK Tryd.prog (glV lq0) (hV lq0) (lo57 L.length (L.map st) t x r i) (loopsOf (bodyOf Tryd.f57)) := by
    intro x r i h
    refine loV_ok (fun c hc _ => ?_) noLO_ok
    rw [e, List.mem_singleton] at hc
    rw [hc]; exact h
  by_cases hin : t ∈ L
  · rw [decide_eq_true hin] at hlp
    rw [if_pos hin] at hlp ⊢
    refine conQ hmix (qA_ok noQ_ok []) (qK_ok noG []) (lkQ_ok noLK_ok) Tryd.func57 rfl (by kernel_rfl) (hlo _ _ _ hlp) (d := 1) ?_
    refine Eq.trans (b := bif tst (v57 L.length (L.map st) t 0 0 = v57 L.length (L.map st) t 0 0 ∧ hV lq0 = hV lq0 ∧ 19 = 19) then some (iv ((idxS t L : Nat) : Int)) else none) (by kernel_rfl) (by rw [ht]; rfl)
  · rw [decide_eq_false hin] at hlp
    rw [if_neg hin] at hlp ⊢
    refine conQ hmix (qA_ok noQ_ok []) (qK_ok noG []) (lkQ_ok noLK_ok) Tryd.func57 rfl (by kernel_rfl) (hlo _ _ _ hlp) (d := 1) ?_
    refine Eq.trans (b := bif tst (v57 L.length (L.map st) t 0 0 = v57 L.length (L.map st) t 0 0 ∧ hV lq0 = hV lq0 ∧ 19 = 19) then some (iv (-1)) else none) (by kernel_rfl) (by rw [ht]; rfl)
/-- The texts of a row of texts. -/
def txts : List Value → List (List UInt8)
  | [] => []
  | .string s :: r => s.data.toList :: txts r
  | _ :: r => txts r
theorem txts_map (L : List (List UInt8)) : txts (L.map st) = L := by
  induction L with
  | nil => rfl
  | cons s L ih => show s :: txts (L.map st) = _; rw [ih]
def hasT (t : List UInt8) (L : List (List UInt8)) : Bool := L.any fun s => s == t
theorem hasT_iff {t : List UInt8} {L : List (List UInt8)} : hasT t L = true ↔ t ∈ L := by simp [hasT]
noncomputable def idxE (ar : List Value) : Option (Bool × Value) := match ar with
  | [.iface ty (.tuple ⟨.slice none l off :: .bool ex :: cs⟩), .string t] => bif Nat.beq ty 4294967296 then some (tst (off = 0 ∧ ex = false ∧ l ≤ 4294967296 ∧ ∃ L : List (List UInt8), L.length = l ∧ cs = L.map st), .int .i64 (bif hasT t.data.toList (txts cs) then ((idxS t.data.toList (txts cs) : Nat) : Int) else -1)) else none
  | _ => none
theorem idxE_ok {ar : List Value} {v : Value} (h : idxE ar = some (true, v)) : ConQ Tryd.prog lq0 57 ar v := by
  unfold idxE at h
  split at h
  · rename_i ty l off ex cs t
    cases hb : Nat.beq ty 4294967296 with
    | false => rw [hb] at h; cases h
    | true =>
      rw [hb] at h
      simp only [cond_true, Option.some.injEq, Prod.mk.injEq] at h
      obtain ⟨ht, rfl⟩ := h
      obtain ⟨rfl, rfl, h1, L, rfl, rfl⟩ := of_tst ht
      have e1 := Nat.eq_of_beq_eq_true hb
      subst e1
      obtain ⟨⟨t⟩⟩ := t
      have := index_con L h1 t
      rw [txts_map]
      by_cases hin : t ∈ L
      · rw [if_pos hin] at this
        rw [hasT_iff.2 hin]; exact this
      · rw [if_neg hin] at this
        rw [show hasT t L = false by rw [← Bool.not_eq_true]; exact fun h => hin (hasT_iff.1 h)]; exact this
  · cases h
noncomputable def GI : TabF := andG 57 idxE noG
theorem GI_ok : TabQ Tryd.prog lq0 GI := andQ_ok Tryd.func57 rfl (by kernel_rfl) (fun ar v h => idxE_ok h) noQ_ok
theorem lenN (L : List (List UInt8)) (t : List UInt8) : (bif hasT t L then ((idxS t L : Nat) : Int) else -1) ≥ 0 ↔ hasT t L = true := by
  cases hasT t L with
  | true => simp only [cond_true, iff_true]; omega
  | false => simp
theorem contains_con (L : List (List UInt8)) (hL : L.length ≤ 4294967296) (t : List UInt8) : ConQ Tryd.prog lq0 45 [gslV L.length 0 false (L.map st), st t] (.bool (hasT t L)) := by
  have hg : GVal (gslV L.length 0 false (L.map st)) := .gsl _ _ _ _ fun x hx => by obtain ⟨y, _, rfl⟩ := List.mem_map.1 hx; exact .plain _ rfl
  refine conQ hmix (qA_ok GI_ok []) (qK_ok GI []) noLK_ok Tryd.func45 rfl (by kernel_rfl) noLO_ok (d := 1) (v := .bool (hasT t L)) ?_
  refine Eq.trans (b := bif tst (GVal (gslV L.length 0 false (L.map st))) then bif tst (0 = 0 ∧ false = false ∧ L.length ≤ 4294967296 ∧ ∃ L' : List (List UInt8), L'.length = L.length ∧ L.map st = L'.map st) then bif decide ((bif hasT t (txts (L.map st)) then ((idxS t (txts (L.map st)) : Nat) : Int) else -1) ≥ 0) then some (.bool true) else some (.bool false) else none else none) (by kernel_rfl) ?_
  rw [tst_of hg, tst_of ⟨rfl, rfl, hL, L, rfl, rfl⟩, txts_map]
  simp only [cond_true, lenN]
  cases hasT t L <;> rfl
noncomputable def conE (ar : List Value) : Option (Bool × Value) := match ar with
  | [.iface ty (.tuple ⟨.slice none l off :: .bool ex :: cs⟩), .string t] => bif Nat.beq ty 4294967296 then some (tst (off = 0 ∧ ex = false ∧ l ≤ 4294967296 ∧ ∃ L : List (List UInt8), L.length = l ∧ cs = L.map st), .bool (hasT t.data.toList (txts cs))) else none
  | _ => none
theorem conE_ok {ar : List Value} {v : Value} (h : conE ar = some (true, v)) : ConQ Tryd.prog lq0 45 ar v := by
  unfold conE at h
  split at h
  · rename_i ty l off ex cs t
    cases hb : Nat.beq ty 4294967296 with
    | false => rw [hb] at h; cases h
    | true =>
      rw [hb] at h
      simp only [cond_true, Option.some.injEq, Prod.mk.injEq] at h
      obtain ⟨ht, rfl⟩ := h
      obtain ⟨rfl, rfl, h1, L, rfl, rfl⟩ := of_tst ht
      have e1 := Nat.eq_of_beq_eq_true hb
      subst e1
      obtain ⟨⟨t⟩⟩ := t
      have := contains_con L h1 t
      rw [txts_map]
      exact this
  · cases h
noncomputable def GC : TabF := andG 45 conE GI
theorem GC_ok : TabQ Tryd.prog lq0 GC := andQ_ok Tryd.func45 rfl (by kernel_rfl) (fun ar v h => conE_ok h) GI_ok
def noA : CallA := fun _ _ _ => none
theorem noA_ok : CallOK Tryd.prog (glV lq0) noA := fun _ _ _ _ _ h => by cases h
/-- Calls: 'word' gone into, slices.Contains told, the parser's other functions by plain functions. -/
noncomputable abbrev pA (L : List Wd) (p : PF) : CallA := mixA [45] (sumQ (glV lq0) lq0 (fun _ => 1) GC) (mixA [23] (lvA Tryd.prog (glV lq0) noA) (sumM lq0 (fun _ => 2) (tabP sh L p)))
noncomputable abbrev pK {R : Type} (L : List Wd) (p : PF) : CK R := mixK [45] (sumQK (glV lq0) lq0 (fun _ => 1) GC) (mixK [23] (lvK Tryd.prog (glV lq0) noA (toK noA)) (sumPK lq0 (fun _ => 2) sh L p))
abbrev Pok (L : List Wd) (p : PF) : Prop := PFok Tryd.prog lq0 sh L p
abbrev Fok (L : List Wd) (k : FuncId) (f : PArg → Int → Int → Int → Int → Option PR) : Prop := FPok Tryd.prog lq0 sh L k f
theorem pA_ok {L : List Wd} {p : PF} (hp : Pok L p) : CallOK Tryd.prog (glV lq0) (pA L p) := mixA_ok (sumQ_ok lq0_g _ GC_ok) (mixA_ok (lvA_ok hmix noA_ok) (sumM_ok lq0_g _ hp))
theorem pK_ok {R : Type} (L : List Wd) (p : PF) : CKok (R := R) (pA L p) (pK L p) := mixK_ok (sumQK_ok _ _ _ _) (mixK_ok (lvK_ok (toK_ok noA)) (sumPK_ok _ _ _ _ _))
abbrev bP (L : List Wd) (i d e a : Int) : List Blk := [.row false 1 (csP L i d e a)]
theorem bP_ro (L : List Wd) (i d e a : Int) : ∀ b ∈ bP L i d e a, b.ro = false := by intro b hb; rw [List.mem_singleton.1 hb]; rfl
/-- These, and functions whose code is gone into, n rounds of each loop. -/
noncomputable abbrev pB (L : List Wd) (ins : List Nat) (n : Nat) (p : PF) : CallA := mixA ins (lwA Tryd.prog (glV lq0) n (pA L p)) (pA L p)
noncomputable abbrev pL {R : Type} (L : List Wd) (ins : List Nat) (n : Nat) (p : PF) : CK R := mixK ins (lwK Tryd.prog (glV lq0) n (pA L p) (pK L p)) (pK L p)
theorem pB_ok {L : List Wd} {p : PF} (hp : Pok L p) (ins : List Nat) (n : Nat) : CallOK Tryd.prog (glV lq0) (pB L ins n p) := mixA_ok (lwA_ok hmix n (pA_ok hp)) (pA_ok hp)
theorem pL_ok {R : Type} (L : List Wd) (p : PF) (ins : List Nat) (n : Nat) : CKok (R := R) (pB L ins n p) (pL L ins n p) := mixK_ok (lwK_ok n (pK_ok L p)) (pK_ok L p)
theorem tst_n1 (s t : ByteArray) (n : Int) (k : NL) : tst (∀ (x : Value), x ∈ [.string s, .string t, .int .i64 n, kv k] → GVal x) = true := tst_of (flatN_g (.cons s t n k .nil))
theorem tst_n2 (s t : ByteArray) (n : Int) (k : NL) (s' t' : ByteArray) (n' : Int) (k' : NL) : tst (∀ (x : Value), x ∈ [.string s, .string t, .int .i64 n, kv k, .string s', .string t', .int .i64 n', kv k'] → GVal x) = true := tst_of (flatN_g (.cons s t n k (.cons s' t' n' k' .nil)))
theorem tst_n3 (s t : ByteArray) (n : Int) (k : NL) (s' t' : ByteArray) (n' : Int) (k' : NL) (s'' t'' : ByteArray) (n'' : Int) (k'' : NL) : tst (∀ (x : Value), x ∈ [.string s, .string t, .int .i64 n, kv k, .string s', .string t', .int .i64 n', kv k', .string s'', .string t'', .int .i64 n'', kv k''] → GVal x) = true := tst_of (flatN_g (.cons s t n k (.cons s' t' n' k' (.cons s'' t'' n'' k'' .nil))))
theorem tst_n3z (s t : ByteArray) (n : Int) (s' t' : ByteArray) (n' : Int) (k' : NL) (s'' t'' : ByteArray) (n'' : Int) (k'' : NL) : tst (∀ (x : Value), x ∈ [.string s, .string t, .int .i64 n, .slice none 0 0, .string s', .string t', .int .i64 n', kv k', .string s'', .string t'', .int .i64 n'', kv k''] → GVal x) = true := tst_of fun x hx => by
  by_cases h : x = .slice none 0 0
  · rw [h]; exact .plain _ rfl
  · refine flatN_g (.cons s t n .nil (.cons s' t' n' k' (.cons s'' t'' n'' k'' .nil))) x ?_
    show x ∈ [.string s, .string t, .int .i64 n, gslV 0 0 false [], .string s', .string t', .int .i64 n', kv k', .string s'', .string t'', .int .i64 n'', kv k'']
    simp only [List.mem_cons, List.not_mem_nil, or_false, h, false_or] at hx ⊢
    rcases hx with h | h | h | h | h | h | h | h | h | h | h <;> simp [h]
theorem tst_n1z (s t : ByteArray) (n : Int) : tst (∀ (x : Value), x ∈ [.string s, .string t, .int .i64 n, .slice none 0 0] → GVal x) = true := tst_of fun x hx => by
  simp only [List.mem_cons, List.not_mem_nil, or_false] at hx
  rcases hx with rfl | rfl | rfl | rfl <;> exact .plain _ rfl
/-- A run whose answer's row of nothing is told as it is. -/
noncomputable abbrev RM (p : PF) (L : List Wd) (fn : Func) (x : PArg) (i d e a : Int) : Option (Value × List Blk) := runM Tryd.prog lq0 (bP L i d e a) (pA L p) (pK L p) noLK 1 [true] fn (p0 :: x.enc)
/-- A round over plain functions. -/
noncomputable abbrev RYP (p : PF) (L : List Wd) (e b : Nat) (ks : KS) (z : Bool) (gs gx : List Bool) (fn : Func) (k : Nat) (ts : List Nat) (D : List (FuncId × List Value)) (vs : List Value) (bs : List Blk) : Option (XA × List Value × List Blk) := RY Tryd.prog (pA L p) (pK L p) noLK e 1 b ks z gs gx fn k ts D vs bs
abbrev oS (k : NL) : Value := .slice (some ⟨3, 0, none⟩) k.len 1
abbrev oB3 (k : NL) : Blk := .row false 4 (flatN k)
/-- Rounds of loops that make rows: the first one; one behind others. -/
noncomputable abbrev RLa (p : PF) (L : List Wd) (fn : Func) (k : Nat) (D : List (FuncId × List Value)) (s t : ByteArray) (n : Int) (i d e a : Int) := RYP p L 1 3 (.cell 2 3) false [true, false, false, true] [true, false, false] fn k [0, 2, 3] D [pt 0, pt 1, pt 2] [bL L i d e a, bN b0 b0 0 (.slice none 0 0), bN s t n (.slice none 0 0)]
noncomputable abbrev RLb (p : PF) (L : List Wd) (fn : Func) (k : Nat) (D : List (FuncId × List Value)) (s t : ByteArray) (n : Int) (ks : NL) (i d e a : Int) := RYP p L 1 3 (.cell 2 3) false [true, false, false, true] [true, false, false] fn k [0, 2, 3] D [pt 0, pt 1, pt 2] [bL L i d e a, bN b0 b0 0 (.slice none 0 0), bN s t n (oS ks), oB3 ks]
noncomputable abbrev RMa (p : PF) (L : List Wd) (g : FuncId) (i d e a : Int) := RYP p L 1 1 (.tmp 5) false [true, true] [true] Tryd.f47 0 [0, 1, 4, 5] [] [pt 0, fv g, .slice none 0 0, .slice none 0 0] [bL L i d e a]
noncomputable abbrev RMb (p : PF) (L : List Wd) (g : FuncId) (ks : NL) (i d e a : Int) := RYP p L 1 1 (.tmp 5) false [true, true] [true] Tryd.f47 0 [0, 1, 4, 5] [] [pt 0, fv g, .slice none 0 0, .slice (some ⟨1, 0, none⟩) ks.len 1] [bL L i d e a, .row false 4 (flatN ks)]
noncomputable abbrev RCa (p : PF) (L : List Wd) (s t : ByteArray) (n i d e a : Int) := RY Tryd.prog (pB L [48] 0 p) (pL L [48] 0 p) noLK 3 1 3 (.tmp 5) false [true, false, false, true] [true, false, false] Tryd.f47 0 [0, 1, 4, 5] [] [pt 0, fc 48, .slice none 0 0, .slice none 0 0] [bL L i d e a, .row false 1 [pt 0], bN s t n (.slice none 0 0)]
noncomputable abbrev RCb (p : PF) (L : List Wd) (s t : ByteArray) (n : Int) (ks : NL) (i d e a : Int) := RY Tryd.prog (pB L [48] 0 p) (pL L [48] 0 p) noLK 3 1 3 (.tmp 5) false [true, false, false, true] [true, false, false] Tryd.f47 0 [0, 1, 4, 5] [] [pt 0, fc 48, .slice none 0 0, .slice (some ⟨3, 0, none⟩) ks.len 1] [bL L i d e a, .row false 1 [pt 0], bN s t n (.slice none 0 0), .row false 4 (flatN ks)]
noncomputable abbrev RRv (p : PF) (L : List Wd) (m : Int) (g : FuncId) (c : List ByteArray) (s t : ByteArray) (n : Int) (ks : NL) (j i d e a : Int) := RYP p L 1 3 .no true [true, false, false] [true, false, false] Tryd.f69 0 [0, 1, 2, 3, 8, 9, 10] [] [pt 0, .int .i64 m, fv g, xv c, pt 1, pt 2, .int .i64 j] [bL L i d e a, bN b0 b0 0 (kv .nil), bN s t n (kv ks)]
noncomputable abbrev RPv (p : PF) (L : List Wd) (s t : ByteArray) (n : Int) (ks : NL) (i d e a : Int) := RYP p L 1 3 .no true [true, false, false] [true, false, false] Tryd.f87 0 [0, 2, 3] [] [pt 0, pt 1, pt 2] [bL L i d e a, bN b0 b0 0 (kv .nil), bN s t n (kv ks)]
abbrev by' (l : List UInt8) : ByteArray := ⟨⟨l⟩⟩
abbrev rG0 : FuncId := 70
abbrev rC0 : List ByteArray := [by' [124, 124]]
abbrev rG1 : FuncId := 72
abbrev rC1 : List ByteArray := [by' [38, 38]]
abbrev rG2 : FuncId := 77
abbrev rC2 : List ByteArray := [by' [61, 61], by' [33, 61], by' [60], by' [60, 61], by' [62], by' [62, 61]]
abbrev rG3 : FuncId := 83
abbrev rC3 : List ByteArray := [by' [43], by' [45], by' [124], by' [94]]
abbrev rG4 : FuncId := 86
abbrev rC4 : List ByteArray := [by' [42], by' [47], by' [37], by' [60, 60], by' [62, 62], by' [38]]
theorem oR0_x (L : List Wd) (m : Int) (s t : ByteArray) (n : Int) (k : NL) (j i d e a : Int) : some (XA.exit 0, [pt 0, .int .i64 m, fv rG0, gslV 1 0 false [.string ⟨⟨[124, 124]⟩⟩], pt 1, pt 2, .int .i64 j], [bL L i d e a, bN b0 b0 0 (kv .nil), bN s t n (kv k)]) = ofE (enR m rG0 rC0 L) (some (false, ((s, t, n, k), j), (i, d, e, a))) := rfl
theorem oR0_n (L : List Wd) (m : Int) (s t : ByteArray) (n : Int) (k : NL) (j i d e a : Int) : some (XA.normal, [pt 0, .int .i64 m, fv rG0, gslV 1 0 false [.string ⟨⟨[124, 124]⟩⟩], pt 1, pt 2, .int .i64 j], [bL L i d e a, bN b0 b0 0 (kv .nil), bN s t n (kv k)]) = ofE (enR m rG0 rC0 L) (some (true, ((s, t, n, k), j), (i, d, e, a))) := rfl
theorem oR1_x (L : List Wd) (m : Int) (s t : ByteArray) (n : Int) (k : NL) (j i d e a : Int) : some (XA.exit 0, [pt 0, .int .i64 m, fv rG1, gslV 1 0 false [.string ⟨⟨[38, 38]⟩⟩], pt 1, pt 2, .int .i64 j], [bL L i d e a, bN b0 b0 0 (kv .nil), bN s t n (kv k)]) = ofE (enR m rG1 rC1 L) (some (false, ((s, t, n, k), j), (i, d, e, a))) := rfl
theorem oR1_n (L : List Wd) (m : Int) (s t : ByteArray) (n : Int) (k : NL) (j i d e a : Int) : some (XA.normal, [pt 0, .int .i64 m, fv rG1, gslV 1 0 false [.string ⟨⟨[38, 38]⟩⟩], pt 1, pt 2, .int .i64 j], [bL L i d e a, bN b0 b0 0 (kv .nil), bN s t n (kv k)]) = ofE (enR m rG1 rC1 L) (some (true, ((s, t, n, k), j), (i, d, e, a))) := rfl
theorem oR2_x (L : List Wd) (m : Int) (s t : ByteArray) (n : Int) (k : NL) (j i d e a : Int) : some (XA.exit 0, [pt 0, .int .i64 m, fv rG2, gslV 6 0 false [.string ⟨⟨[61, 61]⟩⟩, .string ⟨⟨[33, 61]⟩⟩, .string ⟨⟨[60]⟩⟩, .string ⟨⟨[60, 61]⟩⟩, .string ⟨⟨[62]⟩⟩, .string ⟨⟨[62, 61]⟩⟩], pt 1, pt 2, .int .i64 j], [bL L i d e a, bN b0 b0 0 (kv .nil), bN s t n (kv k)]) = ofE (enR m rG2 rC2 L) (some (false, ((s, t, n, k), j), (i, d, e, a))) := rfl
theorem oR2_n (L : List Wd) (m : Int) (s t : ByteArray) (n : Int) (k : NL) (j i d e a : Int) : some (XA.normal, [pt 0, .int .i64 m, fv rG2, gslV 6 0 false [.string ⟨⟨[61, 61]⟩⟩, .string ⟨⟨[33, 61]⟩⟩, .string ⟨⟨[60]⟩⟩, .string ⟨⟨[60, 61]⟩⟩, .string ⟨⟨[62]⟩⟩, .string ⟨⟨[62, 61]⟩⟩], pt 1, pt 2, .int .i64 j], [bL L i d e a, bN b0 b0 0 (kv .nil), bN s t n (kv k)]) = ofE (enR m rG2 rC2 L) (some (true, ((s, t, n, k), j), (i, d, e, a))) := rfl
theorem oR3_x (L : List Wd) (m : Int) (s t : ByteArray) (n : Int) (k : NL) (j i d e a : Int) : some (XA.exit 0, [pt 0, .int .i64 m, fv rG3, gslV 4 0 false [.string ⟨⟨[43]⟩⟩, .string ⟨⟨[45]⟩⟩, .string ⟨⟨[124]⟩⟩, .string ⟨⟨[94]⟩⟩], pt 1, pt 2, .int .i64 j], [bL L i d e a, bN b0 b0 0 (kv .nil), bN s t n (kv k)]) = ofE (enR m rG3 rC3 L) (some (false, ((s, t, n, k), j), (i, d, e, a))) := rfl
theorem oR3_n (L : List Wd) (m : Int) (s t : ByteArray) (n : Int) (k : NL) (j i d e a : Int) : some (XA.normal, [pt 0, .int .i64 m, fv rG3, gslV 4 0 false [.string ⟨⟨[43]⟩⟩, .string ⟨⟨[45]⟩⟩, .string ⟨⟨[124]⟩⟩, .string ⟨⟨[94]⟩⟩], pt 1, pt 2, .int .i64 j], [bL L i d e a, bN b0 b0 0 (kv .nil), bN s t n (kv k)]) = ofE (enR m rG3 rC3 L) (some (true, ((s, t, n, k), j), (i, d, e, a))) := rfl
theorem oR4_x (L : List Wd) (m : Int) (s t : ByteArray) (n : Int) (k : NL) (j i d e a : Int) : some (XA.exit 0, [pt 0, .int .i64 m, fv rG4, gslV 6 0 false [.string ⟨⟨[42]⟩⟩, .string ⟨⟨[47]⟩⟩, .string ⟨⟨[37]⟩⟩, .string ⟨⟨[60, 60]⟩⟩, .string ⟨⟨[62, 62]⟩⟩, .string ⟨⟨[38]⟩⟩], pt 1, pt 2, .int .i64 j], [bL L i d e a, bN b0 b0 0 (kv .nil), bN s t n (kv k)]) = ofE (enR m rG4 rC4 L) (some (false, ((s, t, n, k), j), (i, d, e, a))) := rfl
theorem oR4_n (L : List Wd) (m : Int) (s t : ByteArray) (n : Int) (k : NL) (j i d e a : Int) : some (XA.normal, [pt 0, .int .i64 m, fv rG4, gslV 6 0 false [.string ⟨⟨[42]⟩⟩, .string ⟨⟨[47]⟩⟩, .string ⟨⟨[37]⟩⟩, .string ⟨⟨[60, 60]⟩⟩, .string ⟨⟨[62, 62]⟩⟩, .string ⟨⟨[38]⟩⟩], pt 1, pt 2, .int .i64 j], [bL L i d e a, bN b0 b0 0 (kv .nil), bN s t n (kv k)]) = ofE (enR m rG4 rC4 L) (some (true, ((s, t, n, k), j), (i, d, e, a))) := rfl
theorem gv_strs (n : Nat) (c : List ByteArray) : GVal (gslV n 0 false (c.map .string)) := .gsl _ _ _ _ fun x hx => by obtain ⟨y, _, rfl⟩ := List.mem_map.1 hx; exact gvS _
theorem rT1 (a : ByteArray) : tst (GVal (gslV 1 0 false [.string a])) = true := tst_of (gv_strs 1 [a])
theorem rT4 (a b c d : ByteArray) : tst (GVal (gslV 4 0 false [.string a, .string b, .string c, .string d])) = true := tst_of (gv_strs 4 [a, b, c, d])
theorem rT6 (a b c d e f : ByteArray) : tst (GVal (gslV 6 0 false [.string a, .string b, .string c, .string d, .string e, .string f])) = true := tst_of (gv_strs 6 [a, b, c, d, e, f])
theorem tstT : tst True = true := tst_of trivial
theorem tstTT : tst (True ∧ True) = true := tst_of ⟨trivial, trivial⟩
noncomputable abbrev tW (L : List Wd) : Bool := tst (List.length L = List.length L ∧ flatW L = flatW L)
noncomputable abbrev tG (L : List Wd) (i d e a : Int) : Bool := tst (∀ (x : Value), x ∈ [gslV (List.length L) 0 false (flatW L), Value.int IntKind.i64 i, Value.int IntKind.i64 d, Value.int IntKind.i64 e, Value.int IntKind.i64 a] → GVal x)
abbrev bX (L : List Wd) (i d e a : Int) : Blk := Blk.row false 1 [exF (gslV (List.length L) 0 false (flatW L)), exF (Value.int IntKind.i64 i), exF (Value.int IntKind.i64 d), exF (Value.int IntKind.i64 e), exF (Value.int IntKind.i64 a)]
abbrev tH (L : List Wd) (i : Int) : Bool := decide (0 ≤ i) && decide (i < (↑(List.length L) : Int))
abbrev tI (L : List Wd) (i : Int) : Bool := isInt IntKind.i64 (flatW L) (0 + Int.toNat i * 3) && (isStr (flatW L) (0 + Int.toNat i * 3 + 1) && (isInt IntKind.i64 (flatW L) (0 + Int.toNat i * 3 + 1 + 1) && true))
abbrev aK (L : List Wd) (i : Int) : Int := intAt (flatW L) (0 + Int.toNat i * 3)
abbrev aS (L : List Wd) (i : Int) : ByteArray := strAt (flatW L) (0 + Int.toNat i * 3 + 1)
abbrev aA (L : List Wd) (i : Int) : Int := intAt (flatW L) (0 + Int.toNat i * 3 + 1 + 1)
abbrev bS (l : List UInt8) : ByteArray := { data := { toList := l } }
abbrev vS (s : ByteArray) : Value := Value.string s
abbrev vI (n : Int) : Value := Value.int IntKind.i64 n
abbrev wI (n : Int) : Int := IntKind.wrap IntKind.i64 n
abbrev xS (s : ByteArray) : Value := exF (Value.string s)
abbrev xI (n : Int) : Value := exF (Value.int IntKind.i64 n)
abbrev xK (k : NL) : Value := exF (kv k)
abbrev ob {α β : Type} (m : Option α) (f : α → Option β) : Option β := Option.bind m f
noncomputable def st13 (p : PF) (L : List Wd) (s t : ByteArray) (n : Int) (ks : NL) (i d e a : Int) : Option (Bool × YL × SI) := bif e == 0 then bif Rd.has (rd L) i then bif Rd.k (rd L) i != 0 then ob (p 24 PArg.u i d e a) fun r => bif Nat.ble (NL.len ks + 1) 4294967296 then some (true, (s, t, n, NL.snoc ks r.4 r.5 r.3 r.6), r.7, r.8, r.9, r.10) else none else some (false, (s, t, n, ks), i, d, e, a) else none else some (false, (s, t, n, ks), i, d, e, a)
set_option linter.defProp false in
def SA := And.intro @of_bindG (And.intro @exT (And.intro @exFu (And.intro @nfSn (And.intro @nfSx (And.intro @oE_bind (And.intro @oE_cond (And.intro @oE_condN (And.intro @oE_condM (And.intro @exS (And.intro @exI (And.intro @exBo (And.intro @exKv (And.intro @exG (And.intro @beq00 (And.intro @beq10 (And.intro @exFl (And.intro @exSn (And.intro @exSx (And.intro @fl6 (And.intro @tst_fl (And.intro @tst_fs (And.intro @tst_fsx (And.intro @tst_n1x (And.intro @snF (And.intro @snV (And.intro @oL_x (And.intro @oL_bind (And.intro @oL_cond (And.intro @oL_condN (And.intro @oL_condM (And.intro @exK (And.intro @nfX (And.intro @of_NX (And.intro @of_KX (And.intro @kxF (And.intro @kx1 (And.intro @kx2 (And.intro @tst_refl (And.intro @isN_flat (And.intro @isN_nil (And.intro @unN_flat (And.intro @unN_nil (And.intro @of_bindN (And.intro @of_condZ (And.intro @tst_two (And.intro @tst_csP (And.intro @nfS (And.intro @nfI (And.intro @nfK (And.intro @nfZ (And.intro @fl1 (And.intro @fl2 (And.intro @fl3 (And.intro @fl4 (And.intro @fl5 (And.intro @intAt_1 (And.intro @intAt_2 (And.intro @intAt_3 (And.intro @intAt_4 (And.intro @rd_if (And.intro @rd_k (And.intro @rd_s (And.intro @rd_a (And.intro @gF (And.intro @kvF (And.intro @kv0 (And.intro @kv1 (And.intro @kv2 (And.intro @kv3 (And.intro @of_U (And.intro @of_B (And.intro @of_W (And.intro @of_N (And.intro @of_E (And.intro @of_K (And.intro @of_bind (And.intro @of_cond (And.intro @of_condN (@of_condM)))))))))))))))))))))))))))))))))))))))))))))))))))))))))))))))))))))))))))))))
theorem rB13 (p : PF) (L : List Wd) (s t : ByteArray) (n : Int) (ks : NL) (i d e a : Int) : RLb p L Tryd.f13 0 [] s t n ks i d e a = ofL (XA.exit 0) L (st13 p L s t n ks i d e a) :=
  Eq.trans (b := bif e == 0 then bif tH L i then bif tI L i then bif aK L i != 0 then ob (p 24 PArg.u i d e a) fun r => bif tW L then bif Nat.ble (NL.len ks + 1) 4294967296 then bif Nat.ble (0 + NL.len ks * 4) (List.length (flatN ks)) then bif Nat.beq (0 + NL.len ks * 4) (List.length (flatN ks)) then bif tst (([] : List (FuncId × List Value)) = []) then bif tG L r.7 r.8 r.9 r.10 then bif tst (∀ (x : Value), x ∈ List.take (NL.len ks * 4) (flatN ks) ++ [vS r.4, vS r.5, vI r.3, kv r.6] → GVal x) then some (XA.normal, [pt 0, pt 1, pt 2], [bX L r.7 r.8 r.9 r.10, Blk.row false 1 [xS (bS []), xS (bS []), xI 0, Value.slice none 0 0], Blk.row false 1 [xS s, xS t, xI n, Value.slice (some { block := 3, off := 0 }) (NL.len ks + 1) 1], Blk.row false 4 (List.map exF (List.take (NL.len ks * 4) (flatN ks) ++ [vS r.4, vS r.5, vI r.3, kv r.6]))]) else none else none else none else none else none else none else none else bif tst (([] : List (FuncId × List Value)) = []) then bif tG L i d e a then bif tst (∀ (x : Value), x ∈ flatN ks → GVal x) then some (XA.exit 0, [pt 0, pt 1, pt 2], [bX L i d e a, Blk.row false 1 [xS (bS []), xS (bS []), xI 0, gslV 0 0 false []], Blk.row false 1 [xS s, xS t, xI n, exF (gslV (NL.len ks) 0 (Nat.beq 1 0) (List.map nf (flatN ks)))]]) else none else none else none else none else none else bif tst (([] : List (FuncId × List Value)) = []) then bif tG L i d e a then bif tst (∀ (x : Value), x ∈ flatN ks → GVal x) then some (XA.exit 0, [pt 0, pt 1, pt 2], [bX L i d e a, Blk.row false 1 [xS (bS []), xS (bS []), xI 0, gslV 0 0 false []], Blk.row false 1 [xS s, xS t, xI n, exF (gslV (NL.len ks) 0 (Nat.beq 1 0) (List.map nf (flatN ks)))]]) else none else none else none) (by kernel_rfl) (Eq.trans (b := ofL (XA.exit 0) L (bif e == 0 then bif Rd.has (rd L) i then bif Rd.k (rd L) i != 0 then ob (p 24 PArg.u i d e a) fun r => bif Nat.ble (NL.len ks + 1) 4294967296 then some (true, (s, t, n, NL.snoc ks r.4 r.5 r.3 r.6), r.7, r.8, r.9, r.10) else none else some (false, (s, t, n, ks), i, d, e, a) else none else some (false, (s, t, n, ks), i, d, e, a))) (by simp only [oL_n0, oL_c0, tW, tG, bX, bL, tH, tI, aA, aK, aS, bS, vS, vI, wI, xS, xI, xK, ob, tstT, tstTT, rT1, rT4, rT6, tst_n1, tst_n2, tst_n3, tst_n3z, tst_n1z, cond_true, Bool.and_true, Bool.true_and, SA]) (by kernel_rfl))

theorem rA13 (p : PF) (L : List Wd) (s t : ByteArray) (n i d e a : Int) : RLa p L Tryd.f13 0 [] s t n i d e a = ofL (XA.exit 0) L (st13 p L s t n .nil i d e a) :=
  Eq.trans (b := bif e == 0 then bif tH L i then bif tI L i then bif aK L i != 0 then ob (p 24 PArg.u i d e a) fun r => bif tW L then bif tst (([] : List (FuncId × List Value)) = []) then bif tG L r.7 r.8 r.9 r.10 then bif tst (∀ (x : Value), x ∈ [vS r.4, vS r.5, vI r.3, kv r.6] → GVal x) then some (XA.normal, [pt 0, pt 1, pt 2], [bX L r.7 r.8 r.9 r.10, Blk.row false 1 [xS (bS []), xS (bS []), xI 0, Value.slice none 0 0], Blk.row false 1 [xS s, xS t, xI n, Value.slice (some { block := 3, off := 0 }) 1 1], Blk.row false 4 [xS r.4, xS r.5, xI r.3, xK r.6]]) else none else none else none else none else bif tst (([] : List (FuncId × List Value)) = []) then bif tG L i d e a then some (XA.exit 0, [pt 0, pt 1, pt 2], [bX L i d e a, Blk.row false 1 [xS (bS []), xS (bS []), xI 0, gslV 0 0 false []], Blk.row false 1 [xS s, xS t, xI n, gslV 0 0 false []]]) else none else none else none else none else bif tst (([] : List (FuncId × List Value)) = []) then bif tG L i d e a then some (XA.exit 0, [pt 0, pt 1, pt 2], [bX L i d e a, Blk.row false 1 [xS (bS []), xS (bS []), xI 0, gslV 0 0 false []], Blk.row false 1 [xS s, xS t, xI n, gslV 0 0 false []]]) else none else none) (by kernel_rfl) (Eq.trans (b := ofL (XA.exit 0) L (bif e == 0 then bif Rd.has (rd L) i then bif Rd.k (rd L) i != 0 then ob (p 24 PArg.u i d e a) fun r => some (true, (s, t, n, NL.cons r.4 r.5 r.3 r.6 NL.nil), r.7, r.8, r.9, r.10) else some (false, (s, t, n, NL.nil), i, d, e, a) else none else some (false, (s, t, n, NL.nil), i, d, e, a))) (by simp only [oL_n0, oL_c0, tW, tG, bX, bL, tH, tI, aA, aK, aS, bS, vS, vI, wI, xS, xI, xK, ob, tstT, tstTT, rT1, rT4, rT6, tst_n1, tst_n2, tst_n3, tst_n3z, tst_n1z, cond_true, Bool.and_true, Bool.true_and, SA]) (by kernel_rfl))

noncomputable def st24 (p : PF) (L : List Wd) (s t : ByteArray) (n : Int) (ks : NL) (i d e a : Int) : Option (Bool × YL × SI) := bif e == 0 then ob (p 37 (PArg.x [(bS [125])]) i d e a) fun r => bif r.1 then some (false, (s, t, n, ks), r.7, r.8, r.9, r.10) else ob (p 38 (PArg.s (bS [102, 105, 101, 108, 100])) r.7 r.8 r.9 r.10) fun r => bif Nat.ble (NL.len ks + 1) 4294967296 then ob (p 36 (PArg.s (bS [59])) r.7 r.8 r.9 r.10) fun r1 => some (true, (s, t, n, NL.snoc ks r.4 r.5 r.3 r.6), r1.7, r1.8, r1.9, r1.10) else none else some (false, (s, t, n, ks), i, d, e, a)
theorem rB24 (p : PF) (L : List Wd) (s t : ByteArray) (n : Int) (ks : NL) (i d e a : Int) : RLb p L Tryd.f24 0 [] s t n ks i d e a = ofL (XA.exit 1) L (st24 p L s t n ks i d e a) :=
  Eq.trans (b := bif e == 0 then ob (p 37 (PArg.x [(bS [125])]) i d e a) fun r => bif tW L then bif r.1 then bif tst (([] : List (FuncId × List Value)) = []) then bif tG L r.7 r.8 r.9 r.10 then bif tst (∀ (x : Value), x ∈ flatN ks → GVal x) then some (XA.exit 1, [pt 0, pt 1, pt 2], [bX L r.7 r.8 r.9 r.10, Blk.row false 1 [xS (bS []), xS (bS []), xI 0, gslV 0 0 false []], Blk.row false 1 [xS s, xS t, xI n, exF (gslV (NL.len ks) 0 (Nat.beq 1 0) (List.map nf (flatN ks)))]]) else none else none else none else ob (p 38 (PArg.s (bS [102, 105, 101, 108, 100])) r.7 r.8 r.9 r.10) fun r => bif tW L then bif Nat.ble (NL.len ks + 1) 4294967296 then bif Nat.ble (0 + NL.len ks * 4) (List.length (flatN ks)) then bif Nat.beq (0 + NL.len ks * 4) (List.length (flatN ks)) then ob (p 36 (PArg.s (bS [59])) r.7 r.8 r.9 r.10) fun r1 => bif tW L then bif tst (([] : List (FuncId × List Value)) = []) then bif tG L r1.7 r1.8 r1.9 r1.10 then bif tst (∀ (x : Value), x ∈ List.take (NL.len ks * 4) (flatN ks) ++ [vS r.4, vS r.5, vI r.3, kx r.6] → GVal x) then some (XA.normal, [pt 0, pt 1, pt 2], [bX L r1.7 r1.8 r1.9 r1.10, Blk.row false 1 [xS (bS []), xS (bS []), xI 0, Value.slice none 0 0], Blk.row false 1 [xS s, xS t, xI n, Value.slice (some { block := 3, off := 0 }) (NL.len ks + 1) 1], Blk.row false 4 (List.map exF (List.take (NL.len ks * 4) (flatN ks) ++ [vS r.4, vS r.5, vI r.3, kx r.6]))]) else none else none else none else none else none else none else none else none else none else bif tst (([] : List (FuncId × List Value)) = []) then bif tG L i d e a then bif tst (∀ (x : Value), x ∈ flatN ks → GVal x) then some (XA.exit 1, [pt 0, pt 1, pt 2], [bX L i d e a, Blk.row false 1 [xS (bS []), xS (bS []), xI 0, gslV 0 0 false []], Blk.row false 1 [xS s, xS t, xI n, exF (gslV (NL.len ks) 0 (Nat.beq 1 0) (List.map nf (flatN ks)))]]) else none else none else none) (by kernel_rfl) (Eq.trans (b := ofL (XA.exit 1) L (bif e == 0 then ob (p 37 (PArg.x [(bS [125])]) i d e a) fun r => bif r.1 then some (false, (s, t, n, ks), r.7, r.8, r.9, r.10) else ob (p 38 (PArg.s (bS [102, 105, 101, 108, 100])) r.7 r.8 r.9 r.10) fun r => bif Nat.ble (NL.len ks + 1) 4294967296 then ob (p 36 (PArg.s (bS [59])) r.7 r.8 r.9 r.10) fun r1 => some (true, (s, t, n, NL.snoc ks r.4 r.5 r.3 r.6), r1.7, r1.8, r1.9, r1.10) else none else some (false, (s, t, n, ks), i, d, e, a))) (by simp only [oL_n1, oL_c1, tW, tG, bX, bL, tH, tI, aA, aK, aS, bS, vS, vI, wI, xS, xI, xK, ob, tstT, tstTT, rT1, rT4, rT6, tst_n1, tst_n2, tst_n3, tst_n3z, tst_n1z, cond_true, Bool.and_true, Bool.true_and, SA]) (by kernel_rfl))

theorem rA24 (p : PF) (L : List Wd) (s t : ByteArray) (n i d e a : Int) : RLa p L Tryd.f24 0 [] s t n i d e a = ofL (XA.exit 1) L (st24 p L s t n .nil i d e a) :=
  Eq.trans (b := bif e == 0 then ob (p 37 (PArg.x [(bS [125])]) i d e a) fun r => bif tW L then bif r.1 then bif tst (([] : List (FuncId × List Value)) = []) then bif tG L r.7 r.8 r.9 r.10 then some (XA.exit 1, [pt 0, pt 1, pt 2], [bX L r.7 r.8 r.9 r.10, Blk.row false 1 [xS (bS []), xS (bS []), xI 0, gslV 0 0 false []], Blk.row false 1 [xS s, xS t, xI n, gslV 0 0 false []]]) else none else none else ob (p 38 (PArg.s (bS [102, 105, 101, 108, 100])) r.7 r.8 r.9 r.10) fun r => bif tW L then ob (p 36 (PArg.s (bS [59])) r.7 r.8 r.9 r.10) fun r1 => bif tW L then bif tst (([] : List (FuncId × List Value)) = []) then bif tG L r1.7 r1.8 r1.9 r1.10 then bif tst (∀ (x : Value), x ∈ [vS r.4, vS r.5, vI r.3, kx r.6] → GVal x) then some (XA.normal, [pt 0, pt 1, pt 2], [bX L r1.7 r1.8 r1.9 r1.10, Blk.row false 1 [xS (bS []), xS (bS []), xI 0, Value.slice none 0 0], Blk.row false 1 [xS s, xS t, xI n, Value.slice (some { block := 3, off := 0 }) 1 1], Blk.row false 4 [xS r.4, xS r.5, xI r.3, exF (kx r.6)]]) else none else none else none else none else none else none else bif tst (([] : List (FuncId × List Value)) = []) then bif tG L i d e a then some (XA.exit 1, [pt 0, pt 1, pt 2], [bX L i d e a, Blk.row false 1 [xS (bS []), xS (bS []), xI 0, gslV 0 0 false []], Blk.row false 1 [xS s, xS t, xI n, gslV 0 0 false []]]) else none else none) (by kernel_rfl) (Eq.trans (b := ofL (XA.exit 1) L (bif e == 0 then ob (p 37 (PArg.x [(bS [125])]) i d e a) fun r => bif r.1 then some (false, (s, t, n, NL.nil), r.7, r.8, r.9, r.10) else ob (p 38 (PArg.s (bS [102, 105, 101, 108, 100])) r.7 r.8 r.9 r.10) fun r => ob (p 36 (PArg.s (bS [59])) r.7 r.8 r.9 r.10) fun r1 => some (true, (s, t, n, NL.cons r.4 r.5 r.3 r.6 NL.nil), r1.7, r1.8, r1.9, r1.10) else some (false, (s, t, n, NL.nil), i, d, e, a))) (by simp only [oL_n1, oL_c1, tW, tG, bX, bL, tH, tI, aA, aK, aS, bS, vS, vI, wI, xS, xI, xK, ob, tstT, tstTT, rT1, rT4, rT6, tst_n1, tst_n2, tst_n3, tst_n3z, tst_n1z, cond_true, Bool.and_true, Bool.true_and, SA]) (by kernel_rfl))

noncomputable def st50 (p : PF) (L : List Wd) (s t : ByteArray) (n : Int) (ks : NL) (i d e a : Int) : Option (Bool × YL × SI) := bif e == 0 then ob (p 37 (PArg.x [(bS [125])]) i d e a) fun r => bif r.1 then some (false, (s, t, n, ks), r.7, r.8, r.9, r.10) else ob (p 60 PArg.u r.7 r.8 r.9 r.10) fun r => bif Nat.ble (NL.len ks + 1) 4294967296 then some (true, (s, t, n, NL.snoc ks r.4 r.5 r.3 r.6), r.7, r.8, r.9, r.10) else none else some (false, (s, t, n, ks), i, d, e, a)
theorem rB50 (p : PF) (L : List Wd) (s t : ByteArray) (n : Int) (ks : NL) (i d e a : Int) : RLb p L Tryd.f50 0 [(59, [p0])] s t n ks i d e a = ofL (XA.exit 0) L (st50 p L s t n ks i d e a) :=
  Eq.trans (b := bif e == 0 then ob (p 37 (PArg.x [(bS [125])]) i d e a) fun r => bif tW L then bif r.1 then bif tst ([(59, [pt 0])] = [(59, [pt 0])]) then bif tG L r.7 r.8 r.9 r.10 then bif tst (∀ (x : Value), x ∈ flatN ks → GVal x) then some (XA.exit 0, [pt 0, pt 1, pt 2], [bX L r.7 r.8 r.9 r.10, Blk.row false 1 [xS (bS []), xS (bS []), xI 0, gslV 0 0 false []], Blk.row false 1 [xS s, xS t, xI n, exF (gslV (NL.len ks) 0 (Nat.beq 1 0) (List.map nf (flatN ks)))]]) else none else none else none else ob (p 60 PArg.u r.7 r.8 r.9 r.10) fun r => bif tW L then bif Nat.ble (NL.len ks + 1) 4294967296 then bif Nat.ble (0 + NL.len ks * 4) (List.length (flatN ks)) then bif Nat.beq (0 + NL.len ks * 4) (List.length (flatN ks)) then bif tst ([(59, [pt 0])] = [(59, [pt 0])]) then bif tG L r.7 r.8 r.9 r.10 then bif tst (∀ (x : Value), x ∈ List.take (NL.len ks * 4) (flatN ks) ++ [vS r.4, vS r.5, vI r.3, kv r.6] → GVal x) then some (XA.normal, [pt 0, pt 1, pt 2], [bX L r.7 r.8 r.9 r.10, Blk.row false 1 [xS (bS []), xS (bS []), xI 0, Value.slice none 0 0], Blk.row false 1 [xS s, xS t, xI n, Value.slice (some { block := 3, off := 0 }) (NL.len ks + 1) 1], Blk.row false 4 (List.map exF (List.take (NL.len ks * 4) (flatN ks) ++ [vS r.4, vS r.5, vI r.3, kv r.6]))]) else none else none else none else none else none else none else none else none else bif tst ([(59, [pt 0])] = [(59, [pt 0])]) then bif tG L i d e a then bif tst (∀ (x : Value), x ∈ flatN ks → GVal x) then some (XA.exit 0, [pt 0, pt 1, pt 2], [bX L i d e a, Blk.row false 1 [xS (bS []), xS (bS []), xI 0, gslV 0 0 false []], Blk.row false 1 [xS s, xS t, xI n, exF (gslV (NL.len ks) 0 (Nat.beq 1 0) (List.map nf (flatN ks)))]]) else none else none else none) (by kernel_rfl) (Eq.trans (b := ofL (XA.exit 0) L (bif e == 0 then ob (p 37 (PArg.x [(bS [125])]) i d e a) fun r => bif r.1 then some (false, (s, t, n, ks), r.7, r.8, r.9, r.10) else ob (p 60 PArg.u r.7 r.8 r.9 r.10) fun r => bif Nat.ble (NL.len ks + 1) 4294967296 then some (true, (s, t, n, NL.snoc ks r.4 r.5 r.3 r.6), r.7, r.8, r.9, r.10) else none else some (false, (s, t, n, ks), i, d, e, a))) (by simp only [oL_n0, oL_c0, tW, tG, bX, bL, tH, tI, aA, aK, aS, bS, vS, vI, wI, xS, xI, xK, ob, tstT, tstTT, rT1, rT4, rT6, tst_n1, tst_n2, tst_n3, tst_n3z, tst_n1z, cond_true, Bool.and_true, Bool.true_and, SA]) (by kernel_rfl))

theorem rA50 (p : PF) (L : List Wd) (s t : ByteArray) (n i d e a : Int) : RLa p L Tryd.f50 0 [(59, [p0])] s t n i d e a = ofL (XA.exit 0) L (st50 p L s t n .nil i d e a) :=
  Eq.trans (b := bif e == 0 then ob (p 37 (PArg.x [(bS [125])]) i d e a) fun r => bif tW L then bif r.1 then bif tst ([(59, [pt 0])] = [(59, [pt 0])]) then bif tG L r.7 r.8 r.9 r.10 then some (XA.exit 0, [pt 0, pt 1, pt 2], [bX L r.7 r.8 r.9 r.10, Blk.row false 1 [xS (bS []), xS (bS []), xI 0, gslV 0 0 false []], Blk.row false 1 [xS s, xS t, xI n, gslV 0 0 false []]]) else none else none else ob (p 60 PArg.u r.7 r.8 r.9 r.10) fun r => bif tW L then bif tst ([(59, [pt 0])] = [(59, [pt 0])]) then bif tG L r.7 r.8 r.9 r.10 then bif tst (∀ (x : Value), x ∈ [vS r.4, vS r.5, vI r.3, kv r.6] → GVal x) then some (XA.normal, [pt 0, pt 1, pt 2], [bX L r.7 r.8 r.9 r.10, Blk.row false 1 [xS (bS []), xS (bS []), xI 0, Value.slice none 0 0], Blk.row false 1 [xS s, xS t, xI n, Value.slice (some { block := 3, off := 0 }) 1 1], Blk.row false 4 [xS r.4, xS r.5, xI r.3, xK r.6]]) else none else none else none else none else none else bif tst ([(59, [pt 0])] = [(59, [pt 0])]) then bif tG L i d e a then some (XA.exit 0, [pt 0, pt 1, pt 2], [bX L i d e a, Blk.row false 1 [xS (bS []), xS (bS []), xI 0, gslV 0 0 false []], Blk.row false 1 [xS s, xS t, xI n, gslV 0 0 false []]]) else none else none) (by kernel_rfl) (Eq.trans (b := ofL (XA.exit 0) L (bif e == 0 then ob (p 37 (PArg.x [(bS [125])]) i d e a) fun r => bif r.1 then some (false, (s, t, n, NL.nil), r.7, r.8, r.9, r.10) else ob (p 60 PArg.u r.7 r.8 r.9 r.10) fun r => some (true, (s, t, n, NL.cons r.4 r.5 r.3 r.6 NL.nil), r.7, r.8, r.9, r.10) else some (false, (s, t, n, NL.nil), i, d, e, a))) (by simp only [oL_n0, oL_c0, tW, tG, bX, bL, tH, tI, aA, aK, aS, bS, vS, vI, wI, xS, xI, xK, ob, tstT, tstTT, rT1, rT4, rT6, tst_n1, tst_n2, tst_n3, tst_n3z, tst_n1z, cond_true, Bool.and_true, Bool.true_and, SA]) (by kernel_rfl))

noncomputable def st60 (p : PF) (L : List Wd) (s t : ByteArray) (n : Int) (ks : NL) (i d e a : Int) : Option (Bool × YL × SI) := bif e == 0 then ob (p 37 (PArg.x [(bS [125])]) i d e a) fun r => bif r.1 then some (false, (s, t, n, ks), r.7, r.8, r.9, r.10) else ob (p 66 PArg.u r.7 r.8 r.9 r.10) fun r => bif Nat.ble (NL.len ks + 1) 4294967296 then some (true, (s, t, n, NL.snoc ks r.4 r.5 r.3 r.6), r.7, r.8, r.9, r.10) else none else some (false, (s, t, n, ks), i, d, e, a)
theorem rB60 (p : PF) (L : List Wd) (s t : ByteArray) (n : Int) (ks : NL) (i d e a : Int) : RLb p L Tryd.f60 0 [] s t n ks i d e a = ofL (XA.exit 1) L (st60 p L s t n ks i d e a) :=
  Eq.trans (b := bif e == 0 then ob (p 37 (PArg.x [(bS [125])]) i d e a) fun r => bif tW L then bif r.1 then bif tst (([] : List (FuncId × List Value)) = []) then bif tG L r.7 r.8 r.9 r.10 then bif tst (∀ (x : Value), x ∈ flatN ks → GVal x) then some (XA.exit 1, [pt 0, pt 1, pt 2], [bX L r.7 r.8 r.9 r.10, Blk.row false 1 [xS (bS []), xS (bS []), xI 0, gslV 0 0 false []], Blk.row false 1 [xS s, xS t, xI n, exF (gslV (NL.len ks) 0 (Nat.beq 1 0) (List.map nf (flatN ks)))]]) else none else none else none else ob (p 66 PArg.u r.7 r.8 r.9 r.10) fun r => bif tW L then bif Nat.ble (NL.len ks + 1) 4294967296 then bif Nat.ble (0 + NL.len ks * 4) (List.length (flatN ks)) then bif Nat.beq (0 + NL.len ks * 4) (List.length (flatN ks)) then bif tst (([] : List (FuncId × List Value)) = []) then bif tG L r.7 r.8 r.9 r.10 then bif tst (∀ (x : Value), x ∈ List.take (NL.len ks * 4) (flatN ks) ++ [vS r.4, vS r.5, vI r.3, kv r.6] → GVal x) then some (XA.normal, [pt 0, pt 1, pt 2], [bX L r.7 r.8 r.9 r.10, Blk.row false 1 [xS (bS []), xS (bS []), xI 0, Value.slice none 0 0], Blk.row false 1 [xS s, xS t, xI n, Value.slice (some { block := 3, off := 0 }) (NL.len ks + 1) 1], Blk.row false 4 (List.map exF (List.take (NL.len ks * 4) (flatN ks) ++ [vS r.4, vS r.5, vI r.3, kv r.6]))]) else none else none else none else none else none else none else none else none else bif tst (([] : List (FuncId × List Value)) = []) then bif tG L i d e a then bif tst (∀ (x : Value), x ∈ flatN ks → GVal x) then some (XA.exit 1, [pt 0, pt 1, pt 2], [bX L i d e a, Blk.row false 1 [xS (bS []), xS (bS []), xI 0, gslV 0 0 false []], Blk.row false 1 [xS s, xS t, xI n, exF (gslV (NL.len ks) 0 (Nat.beq 1 0) (List.map nf (flatN ks)))]]) else none else none else none) (by kernel_rfl) (Eq.trans (b := ofL (XA.exit 1) L (bif e == 0 then ob (p 37 (PArg.x [(bS [125])]) i d e a) fun r => bif r.1 then some (false, (s, t, n, ks), r.7, r.8, r.9, r.10) else ob (p 66 PArg.u r.7 r.8 r.9 r.10) fun r => bif Nat.ble (NL.len ks + 1) 4294967296 then some (true, (s, t, n, NL.snoc ks r.4 r.5 r.3 r.6), r.7, r.8, r.9, r.10) else none else some (false, (s, t, n, ks), i, d, e, a))) (by simp only [oL_n1, oL_c1, tW, tG, bX, bL, tH, tI, aA, aK, aS, bS, vS, vI, wI, xS, xI, xK, ob, tstT, tstTT, rT1, rT4, rT6, tst_n1, tst_n2, tst_n3, tst_n3z, tst_n1z, cond_true, Bool.and_true, Bool.true_and, SA]) (by kernel_rfl))

theorem rA60 (p : PF) (L : List Wd) (s t : ByteArray) (n i d e a : Int) : RLa p L Tryd.f60 0 [] s t n i d e a = ofL (XA.exit 1) L (st60 p L s t n .nil i d e a) :=
  Eq.trans (b := bif e == 0 then ob (p 37 (PArg.x [(bS [125])]) i d e a) fun r => bif tW L then bif r.1 then bif tst (([] : List (FuncId × List Value)) = []) then bif tG L r.7 r.8 r.9 r.10 then some (XA.exit 1, [pt 0, pt 1, pt 2], [bX L r.7 r.8 r.9 r.10, Blk.row false 1 [xS (bS []), xS (bS []), xI 0, gslV 0 0 false []], Blk.row false 1 [xS s, xS t, xI n, gslV 0 0 false []]]) else none else none else ob (p 66 PArg.u r.7 r.8 r.9 r.10) fun r => bif tW L then bif tst (([] : List (FuncId × List Value)) = []) then bif tG L r.7 r.8 r.9 r.10 then bif tst (∀ (x : Value), x ∈ [vS r.4, vS r.5, vI r.3, kv r.6] → GVal x) then some (XA.normal, [pt 0, pt 1, pt 2], [bX L r.7 r.8 r.9 r.10, Blk.row false 1 [xS (bS []), xS (bS []), xI 0, Value.slice none 0 0], Blk.row false 1 [xS s, xS t, xI n, Value.slice (some { block := 3, off := 0 }) 1 1], Blk.row false 4 [xS r.4, xS r.5, xI r.3, xK r.6]]) else none else none else none else none else none else bif tst (([] : List (FuncId × List Value)) = []) then bif tG L i d e a then some (XA.exit 1, [pt 0, pt 1, pt 2], [bX L i d e a, Blk.row false 1 [xS (bS []), xS (bS []), xI 0, gslV 0 0 false []], Blk.row false 1 [xS s, xS t, xI n, gslV 0 0 false []]]) else none else none) (by kernel_rfl) (Eq.trans (b := ofL (XA.exit 1) L (bif e == 0 then ob (p 37 (PArg.x [(bS [125])]) i d e a) fun r => bif r.1 then some (false, (s, t, n, NL.nil), r.7, r.8, r.9, r.10) else ob (p 66 PArg.u r.7 r.8 r.9 r.10) fun r => some (true, (s, t, n, NL.cons r.4 r.5 r.3 r.6 NL.nil), r.7, r.8, r.9, r.10) else some (false, (s, t, n, NL.nil), i, d, e, a))) (by simp only [oL_n1, oL_c1, tW, tG, bX, bL, tH, tI, aA, aK, aS, bS, vS, vI, wI, xS, xI, xK, ob, tstT, tstTT, rT1, rT4, rT6, tst_n1, tst_n2, tst_n3, tst_n3z, tst_n1z, cond_true, Bool.and_true, Bool.true_and, SA]) (by kernel_rfl))

noncomputable def st47g46 (p : PF) (L : List Wd) (ks : NL) (i d e a : Int) : Option (Bool × NL × SI) := bif e == 0 then bif decide ((↑(NL.len ks) : Int) > 0) then ob (p 46 PArg.u i d e a) fun r => bif Nat.ble (NL.len ks + 1) 4294967296 then ob (p 34 (PArg.s (bS [44])) r.7 r.8 r.9 r.10) fun r1 => bif r1.1 then some (true, NL.snoc ks r.4 r.5 r.3 r.6, r1.7, r1.8, r1.9, r1.10) else some (false, NL.snoc ks r.4 r.5 r.3 r.6, r1.7, r1.8, r1.9, r1.10) else none else ob (p 37 (PArg.x [(bS [41])]) i d e a) fun r => bif r.1 then some (false, ks, r.7, r.8, r.9, r.10) else ob (p 46 PArg.u r.7 r.8 r.9 r.10) fun r => bif Nat.ble (NL.len ks + 1) 4294967296 then ob (p 34 (PArg.s (bS [44])) r.7 r.8 r.9 r.10) fun r1 => bif r1.1 then some (true, NL.snoc ks r.4 r.5 r.3 r.6, r1.7, r1.8, r1.9, r1.10) else some (false, NL.snoc ks r.4 r.5 r.3 r.6, r1.7, r1.8, r1.9, r1.10) else none else some (false, ks, i, d, e, a)
theorem rB47g46 (p : PF) (L : List Wd) (ks : NL) (i d e a : Int) : RMb p L 46 ks i d e a = ofE (enM 46 L) (st47g46 p L ks i d e a) :=
  Eq.trans (b := bif e == 0 then bif decide ((↑(NL.len ks) : Int) > 0) then ob (p 46 PArg.u i d e a) fun r => bif tW L then bif Nat.ble (NL.len ks + 1) 4294967296 then bif Nat.ble (0 + NL.len ks * 4) (List.length (flatN ks)) then bif Nat.beq (0 + NL.len ks * 4) (List.length (flatN ks)) then ob (p 34 (PArg.s (bS [44])) r.7 r.8 r.9 r.10) fun r1 => bif tW L then bif r1.1 then bif tst (([] : List (FuncId × List Value)) = []) then bif tG L r1.7 r1.8 r1.9 r1.10 then bif tst (∀ (x : Value), x ∈ List.take (NL.len ks * 4) (flatN ks) ++ [vS r.4, vS r.5, vI r.3, kv r.6] → GVal x) then some (XA.normal, [pt 0, exF (Value.func (Go.Fn.func 46) { toList := [pt 0] } { toList := [] }), Value.slice none 0 0, Value.slice (some { block := 1, off := 0 }) (NL.len ks + 1) 1], [bX L r1.7 r1.8 r1.9 r1.10, Blk.row false 4 (List.map exF (List.take (NL.len ks * 4) (flatN ks) ++ [vS r.4, vS r.5, vI r.3, kv r.6]))]) else none else none else none else bif tst (([] : List (FuncId × List Value)) = []) then bif tst (∀ (x : Value), x ∈ List.take (NL.len ks * 4) (flatN ks) ++ [vS r.4, vS r.5, vI r.3, kv r.6] → GVal x) then bif tG L r1.7 r1.8 r1.9 r1.10 then some (XA.exit 0, [pt 0, exF (Value.func (Go.Fn.func 46) { toList := [pt 0] } { toList := [] }), gslV 0 0 false [], exF (gslV (NL.len ks + 1) 0 (Nat.beq 1 0) (List.map nf (List.take (NL.len ks * 4) (flatN ks) ++ [vS r.4, vS r.5, vI r.3, kv r.6])))], [bX L r1.7 r1.8 r1.9 r1.10]) else none else none else none else none else none else none else none else none else ob (p 37 (PArg.x [(bS [41])]) i d e a) fun r => bif tW L then bif r.1 then bif tst (([] : List (FuncId × List Value)) = []) then bif tst (∀ (x : Value), x ∈ flatN ks → GVal x) then bif tG L r.7 r.8 r.9 r.10 then some (XA.exit 0, [pt 0, exF (Value.func (Go.Fn.func 46) { toList := [pt 0] } { toList := [] }), gslV 0 0 false [], exF (gslV (NL.len ks) 0 (Nat.beq 1 0) (List.map nf (flatN ks)))], [bX L r.7 r.8 r.9 r.10]) else none else none else none else ob (p 46 PArg.u r.7 r.8 r.9 r.10) fun r => bif tW L then bif Nat.ble (NL.len ks + 1) 4294967296 then bif Nat.ble (0 + NL.len ks * 4) (List.length (flatN ks)) then bif Nat.beq (0 + NL.len ks * 4) (List.length (flatN ks)) then ob (p 34 (PArg.s (bS [44])) r.7 r.8 r.9 r.10) fun r1 => bif tW L then bif r1.1 then bif tst (([] : List (FuncId × List Value)) = []) then bif tG L r1.7 r1.8 r1.9 r1.10 then bif tst (∀ (x : Value), x ∈ List.take (NL.len ks * 4) (flatN ks) ++ [vS r.4, vS r.5, vI r.3, kv r.6] → GVal x) then some (XA.normal, [pt 0, exF (Value.func (Go.Fn.func 46) { toList := [pt 0] } { toList := [] }), Value.slice none 0 0, Value.slice (some { block := 1, off := 0 }) (NL.len ks + 1) 1], [bX L r1.7 r1.8 r1.9 r1.10, Blk.row false 4 (List.map exF (List.take (NL.len ks * 4) (flatN ks) ++ [vS r.4, vS r.5, vI r.3, kv r.6]))]) else none else none else none else bif tst (([] : List (FuncId × List Value)) = []) then bif tst (∀ (x : Value), x ∈ List.take (NL.len ks * 4) (flatN ks) ++ [vS r.4, vS r.5, vI r.3, kv r.6] → GVal x) then bif tG L r1.7 r1.8 r1.9 r1.10 then some (XA.exit 0, [pt 0, exF (Value.func (Go.Fn.func 46) { toList := [pt 0] } { toList := [] }), gslV 0 0 false [], exF (gslV (NL.len ks + 1) 0 (Nat.beq 1 0) (List.map nf (List.take (NL.len ks * 4) (flatN ks) ++ [vS r.4, vS r.5, vI r.3, kv r.6])))], [bX L r1.7 r1.8 r1.9 r1.10]) else none else none else none else none else none else none else none else none else none else bif tst (([] : List (FuncId × List Value)) = []) then bif tst (∀ (x : Value), x ∈ flatN ks → GVal x) then bif tG L i d e a then some (XA.exit 0, [pt 0, exF (Value.func (Go.Fn.func 46) { toList := [pt 0] } { toList := [] }), gslV 0 0 false [], exF (gslV (NL.len ks) 0 (Nat.beq 1 0) (List.map nf (flatN ks)))], [bX L i d e a]) else none else none else none) (by kernel_rfl) (Eq.trans (b := ofE (enM 46 L) (bif e == 0 then bif decide ((↑(NL.len ks) : Int) > 0) then ob (p 46 PArg.u i d e a) fun r => bif Nat.ble (NL.len ks + 1) 4294967296 then ob (p 34 (PArg.s (bS [44])) r.7 r.8 r.9 r.10) fun r1 => bif r1.1 then some (true, NL.snoc ks r.4 r.5 r.3 r.6, r1.7, r1.8, r1.9, r1.10) else some (false, NL.snoc ks r.4 r.5 r.3 r.6, r1.7, r1.8, r1.9, r1.10) else none else ob (p 37 (PArg.x [(bS [41])]) i d e a) fun r => bif r.1 then some (false, ks, r.7, r.8, r.9, r.10) else ob (p 46 PArg.u r.7 r.8 r.9 r.10) fun r => bif Nat.ble (NL.len ks + 1) 4294967296 then ob (p 34 (PArg.s (bS [44])) r.7 r.8 r.9 r.10) fun r1 => bif r1.1 then some (true, NL.snoc ks r.4 r.5 r.3 r.6, r1.7, r1.8, r1.9, r1.10) else some (false, NL.snoc ks r.4 r.5 r.3 r.6, r1.7, r1.8, r1.9, r1.10) else none else some (false, ks, i, d, e, a))) (by simp only [oM_x, oM_n, oM_c, tW, tG, bX, bL, tH, tI, aA, aK, aS, bS, vS, vI, wI, xS, xI, xK, ob, tstT, tstTT, rT1, rT4, rT6, tst_n1, tst_n2, tst_n3, tst_n3z, tst_n1z, cond_true, Bool.and_true, Bool.true_and, SA]) (by kernel_rfl))

theorem rA47g46 (p : PF) (L : List Wd) (i d e a : Int) : RMa p L 46 i d e a = ofE (enM 46 L) (st47g46 p L .nil i d e a) :=
  Eq.trans (b := bif e == 0 then ob (p 37 (PArg.x [(bS [41])]) i d e a) fun r => bif tW L then bif r.1 then bif tst (([] : List (FuncId × List Value)) = []) then bif tG L r.7 r.8 r.9 r.10 then some (XA.exit 0, [pt 0, exF (Value.func (Go.Fn.func 46) { toList := [pt 0] } { toList := [] }), gslV 0 0 false [], gslV 0 0 false []], [bX L r.7 r.8 r.9 r.10]) else none else none else ob (p 46 PArg.u r.7 r.8 r.9 r.10) fun r => bif tW L then ob (p 34 (PArg.s (bS [44])) r.7 r.8 r.9 r.10) fun r1 => bif tW L then bif r1.1 then bif tst (([] : List (FuncId × List Value)) = []) then bif tG L r1.7 r1.8 r1.9 r1.10 then bif tst (∀ (x : Value), x ∈ [vS r.4, vS r.5, vI r.3, kv r.6] → GVal x) then some (XA.normal, [pt 0, exF (Value.func (Go.Fn.func 46) { toList := [pt 0] } { toList := [] }), Value.slice none 0 0, Value.slice (some { block := 1, off := 0 }) 1 1], [bX L r1.7 r1.8 r1.9 r1.10, Blk.row false 4 [xS r.4, xS r.5, xI r.3, xK r.6]]) else none else none else none else bif tst (([] : List (FuncId × List Value)) = []) then bif tst (∀ (x : Value), x ∈ [vS r.4, vS r.5, vI r.3, kv r.6] → GVal x) then bif tG L r1.7 r1.8 r1.9 r1.10 then some (XA.exit 0, [pt 0, exF (Value.func (Go.Fn.func 46) { toList := [pt 0] } { toList := [] }), gslV 0 0 false [], exF (gslV 1 0 (Nat.beq 1 0) [nf (vS r.4), nf (vS r.5), nf (vI r.3), nf (kv r.6)])], [bX L r1.7 r1.8 r1.9 r1.10]) else none else none else none else none else none else none else bif tst (([] : List (FuncId × List Value)) = []) then bif tG L i d e a then some (XA.exit 0, [pt 0, exF (Value.func (Go.Fn.func 46) { toList := [pt 0] } { toList := [] }), gslV 0 0 false [], gslV 0 0 false []], [bX L i d e a]) else none else none) (by kernel_rfl) (Eq.trans (b := ofE (enM 46 L) (bif e == 0 then ob (p 37 (PArg.x [(bS [41])]) i d e a) fun r => bif r.1 then some (false, NL.nil, r.7, r.8, r.9, r.10) else ob (p 46 PArg.u r.7 r.8 r.9 r.10) fun r => ob (p 34 (PArg.s (bS [44])) r.7 r.8 r.9 r.10) fun r1 => bif r1.1 then some (true, NL.cons r.4 r.5 r.3 r.6 NL.nil, r1.7, r1.8, r1.9, r1.10) else some (false, NL.cons r.4 r.5 r.3 r.6 NL.nil, r1.7, r1.8, r1.9, r1.10) else some (false, NL.nil, i, d, e, a))) (by simp only [oM_x, oM_n, oM_c, tW, tG, bX, bL, tH, tI, aA, aK, aS, bS, vS, vI, wI, xS, xI, xK, ob, tstT, tstTT, rT1, rT4, rT6, tst_n1, tst_n2, tst_n3, tst_n3z, tst_n1z, cond_true, Bool.and_true, Bool.true_and, SA]) (by kernel_rfl))

noncomputable def st47g89 (p : PF) (L : List Wd) (ks : NL) (i d e a : Int) : Option (Bool × NL × SI) := bif e == 0 then bif decide ((↑(NL.len ks) : Int) > 0) then ob (p 89 PArg.u i d e a) fun r => bif Nat.ble (NL.len ks + 1) 4294967296 then ob (p 34 (PArg.s (bS [44])) r.7 r.8 r.9 r.10) fun r1 => bif r1.1 then some (true, NL.snoc ks r.4 r.5 r.3 r.6, r1.7, r1.8, r1.9, r1.10) else some (false, NL.snoc ks r.4 r.5 r.3 r.6, r1.7, r1.8, r1.9, r1.10) else none else ob (p 37 (PArg.x [(bS [41])]) i d e a) fun r => bif r.1 then some (false, ks, r.7, r.8, r.9, r.10) else ob (p 89 PArg.u r.7 r.8 r.9 r.10) fun r => bif Nat.ble (NL.len ks + 1) 4294967296 then ob (p 34 (PArg.s (bS [44])) r.7 r.8 r.9 r.10) fun r1 => bif r1.1 then some (true, NL.snoc ks r.4 r.5 r.3 r.6, r1.7, r1.8, r1.9, r1.10) else some (false, NL.snoc ks r.4 r.5 r.3 r.6, r1.7, r1.8, r1.9, r1.10) else none else some (false, ks, i, d, e, a)
theorem rB47g89 (p : PF) (L : List Wd) (ks : NL) (i d e a : Int) : RMb p L 89 ks i d e a = ofE (enM 89 L) (st47g89 p L ks i d e a) :=
  Eq.trans (b := bif e == 0 then bif decide ((↑(NL.len ks) : Int) > 0) then ob (p 89 PArg.u i d e a) fun r => bif tW L then bif Nat.ble (NL.len ks + 1) 4294967296 then bif Nat.ble (0 + NL.len ks * 4) (List.length (flatN ks)) then bif Nat.beq (0 + NL.len ks * 4) (List.length (flatN ks)) then ob (p 34 (PArg.s (bS [44])) r.7 r.8 r.9 r.10) fun r1 => bif tW L then bif r1.1 then bif tst (([] : List (FuncId × List Value)) = []) then bif tG L r1.7 r1.8 r1.9 r1.10 then bif tst (∀ (x : Value), x ∈ List.take (NL.len ks * 4) (flatN ks) ++ [vS r.4, vS r.5, vI r.3, kv r.6] → GVal x) then some (XA.normal, [pt 0, exF (Value.func (Go.Fn.func 89) { toList := [pt 0] } { toList := [] }), Value.slice none 0 0, Value.slice (some { block := 1, off := 0 }) (NL.len ks + 1) 1], [bX L r1.7 r1.8 r1.9 r1.10, Blk.row false 4 (List.map exF (List.take (NL.len ks * 4) (flatN ks) ++ [vS r.4, vS r.5, vI r.3, kv r.6]))]) else none else none else none else bif tst (([] : List (FuncId × List Value)) = []) then bif tst (∀ (x : Value), x ∈ List.take (NL.len ks * 4) (flatN ks) ++ [vS r.4, vS r.5, vI r.3, kv r.6] → GVal x) then bif tG L r1.7 r1.8 r1.9 r1.10 then some (XA.exit 0, [pt 0, exF (Value.func (Go.Fn.func 89) { toList := [pt 0] } { toList := [] }), gslV 0 0 false [], exF (gslV (NL.len ks + 1) 0 (Nat.beq 1 0) (List.map nf (List.take (NL.len ks * 4) (flatN ks) ++ [vS r.4, vS r.5, vI r.3, kv r.6])))], [bX L r1.7 r1.8 r1.9 r1.10]) else none else none else none else none else none else none else none else none else ob (p 37 (PArg.x [(bS [41])]) i d e a) fun r => bif tW L then bif r.1 then bif tst (([] : List (FuncId × List Value)) = []) then bif tst (∀ (x : Value), x ∈ flatN ks → GVal x) then bif tG L r.7 r.8 r.9 r.10 then some (XA.exit 0, [pt 0, exF (Value.func (Go.Fn.func 89) { toList := [pt 0] } { toList := [] }), gslV 0 0 false [], exF (gslV (NL.len ks) 0 (Nat.beq 1 0) (List.map nf (flatN ks)))], [bX L r.7 r.8 r.9 r.10]) else none else none else none else ob (p 89 PArg.u r.7 r.8 r.9 r.10) fun r => bif tW L then bif Nat.ble (NL.len ks + 1) 4294967296 then bif Nat.ble (0 + NL.len ks * 4) (List.length (flatN ks)) then bif Nat.beq (0 + NL.len ks * 4) (List.length (flatN ks)) then ob (p 34 (PArg.s (bS [44])) r.7 r.8 r.9 r.10) fun r1 => bif tW L then bif r1.1 then bif tst (([] : List (FuncId × List Value)) = []) then bif tG L r1.7 r1.8 r1.9 r1.10 then bif tst (∀ (x : Value), x ∈ List.take (NL.len ks * 4) (flatN ks) ++ [vS r.4, vS r.5, vI r.3, kv r.6] → GVal x) then some (XA.normal, [pt 0, exF (Value.func (Go.Fn.func 89) { toList := [pt 0] } { toList := [] }), Value.slice none 0 0, Value.slice (some { block := 1, off := 0 }) (NL.len ks + 1) 1], [bX L r1.7 r1.8 r1.9 r1.10, Blk.row false 4 (List.map exF (List.take (NL.len ks * 4) (flatN ks) ++ [vS r.4, vS r.5, vI r.3, kv r.6]))]) else none else none else none else bif tst (([] : List (FuncId × List Value)) = []) then bif tst (∀ (x : Value), x ∈ List.take (NL.len ks * 4) (flatN ks) ++ [vS r.4, vS r.5, vI r.3, kv r.6] → GVal x) then bif tG L r1.7 r1.8 r1.9 r1.10 then some (XA.exit 0, [pt 0, exF (Value.func (Go.Fn.func 89) { toList := [pt 0] } { toList := [] }), gslV 0 0 false [], exF (gslV (NL.len ks + 1) 0 (Nat.beq 1 0) (List.map nf (List.take (NL.len ks * 4) (flatN ks) ++ [vS r.4, vS r.5, vI r.3, kv r.6])))], [bX L r1.7 r1.8 r1.9 r1.10]) else none else none else none else none else none else none else none else none else none else bif tst (([] : List (FuncId × List Value)) = []) then bif tst (∀ (x : Value), x ∈ flatN ks → GVal x) then bif tG L i d e a then some (XA.exit 0, [pt 0, exF (Value.func (Go.Fn.func 89) { toList := [pt 0] } { toList := [] }), gslV 0 0 false [], exF (gslV (NL.len ks) 0 (Nat.beq 1 0) (List.map nf (flatN ks)))], [bX L i d e a]) else none else none else none) (by kernel_rfl) (Eq.trans (b := ofE (enM 89 L) (bif e == 0 then bif decide ((↑(NL.len ks) : Int) > 0) then ob (p 89 PArg.u i d e a) fun r => bif Nat.ble (NL.len ks + 1) 4294967296 then ob (p 34 (PArg.s (bS [44])) r.7 r.8 r.9 r.10) fun r1 => bif r1.1 then some (true, NL.snoc ks r.4 r.5 r.3 r.6, r1.7, r1.8, r1.9, r1.10) else some (false, NL.snoc ks r.4 r.5 r.3 r.6, r1.7, r1.8, r1.9, r1.10) else none else ob (p 37 (PArg.x [(bS [41])]) i d e a) fun r => bif r.1 then some (false, ks, r.7, r.8, r.9, r.10) else ob (p 89 PArg.u r.7 r.8 r.9 r.10) fun r => bif Nat.ble (NL.len ks + 1) 4294967296 then ob (p 34 (PArg.s (bS [44])) r.7 r.8 r.9 r.10) fun r1 => bif r1.1 then some (true, NL.snoc ks r.4 r.5 r.3 r.6, r1.7, r1.8, r1.9, r1.10) else some (false, NL.snoc ks r.4 r.5 r.3 r.6, r1.7, r1.8, r1.9, r1.10) else none else some (false, ks, i, d, e, a))) (by simp only [oM_x, oM_n, oM_c, tW, tG, bX, bL, tH, tI, aA, aK, aS, bS, vS, vI, wI, xS, xI, xK, ob, tstT, tstTT, rT1, rT4, rT6, tst_n1, tst_n2, tst_n3, tst_n3z, tst_n1z, cond_true, Bool.and_true, Bool.true_and, SA]) (by kernel_rfl))

theorem rA47g89 (p : PF) (L : List Wd) (i d e a : Int) : RMa p L 89 i d e a = ofE (enM 89 L) (st47g89 p L .nil i d e a) :=
  Eq.trans (b := bif e == 0 then ob (p 37 (PArg.x [(bS [41])]) i d e a) fun r => bif tW L then bif r.1 then bif tst (([] : List (FuncId × List Value)) = []) then bif tG L r.7 r.8 r.9 r.10 then some (XA.exit 0, [pt 0, exF (Value.func (Go.Fn.func 89) { toList := [pt 0] } { toList := [] }), gslV 0 0 false [], gslV 0 0 false []], [bX L r.7 r.8 r.9 r.10]) else none else none else ob (p 89 PArg.u r.7 r.8 r.9 r.10) fun r => bif tW L then ob (p 34 (PArg.s (bS [44])) r.7 r.8 r.9 r.10) fun r1 => bif tW L then bif r1.1 then bif tst (([] : List (FuncId × List Value)) = []) then bif tG L r1.7 r1.8 r1.9 r1.10 then bif tst (∀ (x : Value), x ∈ [vS r.4, vS r.5, vI r.3, kv r.6] → GVal x) then some (XA.normal, [pt 0, exF (Value.func (Go.Fn.func 89) { toList := [pt 0] } { toList := [] }), Value.slice none 0 0, Value.slice (some { block := 1, off := 0 }) 1 1], [bX L r1.7 r1.8 r1.9 r1.10, Blk.row false 4 [xS r.4, xS r.5, xI r.3, xK r.6]]) else none else none else none else bif tst (([] : List (FuncId × List Value)) = []) then bif tst (∀ (x : Value), x ∈ [vS r.4, vS r.5, vI r.3, kv r.6] → GVal x) then bif tG L r1.7 r1.8 r1.9 r1.10 then some (XA.exit 0, [pt 0, exF (Value.func (Go.Fn.func 89) { toList := [pt 0] } { toList := [] }), gslV 0 0 false [], exF (gslV 1 0 (Nat.beq 1 0) [nf (vS r.4), nf (vS r.5), nf (vI r.3), nf (kv r.6)])], [bX L r1.7 r1.8 r1.9 r1.10]) else none else none else none else none else none else none else bif tst (([] : List (FuncId × List Value)) = []) then bif tG L i d e a then some (XA.exit 0, [pt 0, exF (Value.func (Go.Fn.func 89) { toList := [pt 0] } { toList := [] }), gslV 0 0 false [], gslV 0 0 false []], [bX L i d e a]) else none else none) (by kernel_rfl) (Eq.trans (b := ofE (enM 89 L) (bif e == 0 then ob (p 37 (PArg.x [(bS [41])]) i d e a) fun r => bif r.1 then some (false, NL.nil, r.7, r.8, r.9, r.10) else ob (p 89 PArg.u r.7 r.8 r.9 r.10) fun r => ob (p 34 (PArg.s (bS [44])) r.7 r.8 r.9 r.10) fun r1 => bif r1.1 then some (true, NL.cons r.4 r.5 r.3 r.6 NL.nil, r1.7, r1.8, r1.9, r1.10) else some (false, NL.cons r.4 r.5 r.3 r.6 NL.nil, r1.7, r1.8, r1.9, r1.10) else some (false, NL.nil, i, d, e, a))) (by simp only [oM_x, oM_n, oM_c, tW, tG, bX, bL, tH, tI, aA, aK, aS, bS, vS, vI, wI, xS, xI, xK, ob, tstT, tstTT, rT1, rT4, rT6, tst_n1, tst_n2, tst_n3, tst_n3z, tst_n1z, cond_true, Bool.and_true, Bool.true_and, SA]) (by kernel_rfl))

noncomputable def st47c (p : PF) (L : List Wd) (s t : ByteArray) (n : Int) (ks : NL) (i d e a : Int) : Option (Bool × YL × SI) := bif e == 0 then bif decide ((↑(NL.len ks) : Int) > 0) then ob (p 38 (PArg.s (bS [112, 97, 114, 97, 109])) i d e a) fun r => bif Nat.ble (NL.len ks + 1) 4294967296 then ob (p 34 (PArg.s (bS [44])) r.7 r.8 r.9 r.10) fun r1 => bif r1.1 then some (true, (s, t, n, NL.snoc ks r.4 r.5 r.3 r.6), r1.7, r1.8, r1.9, r1.10) else some (false, (s, t, n, NL.snoc ks r.4 r.5 r.3 r.6), r1.7, r1.8, r1.9, r1.10) else none else ob (p 37 (PArg.x [(bS [41])]) i d e a) fun r => bif r.1 then some (false, (s, t, n, ks), r.7, r.8, r.9, r.10) else ob (p 38 (PArg.s (bS [112, 97, 114, 97, 109])) r.7 r.8 r.9 r.10) fun r => bif Nat.ble (NL.len ks + 1) 4294967296 then ob (p 34 (PArg.s (bS [44])) r.7 r.8 r.9 r.10) fun r1 => bif r1.1 then some (true, (s, t, n, NL.snoc ks r.4 r.5 r.3 r.6), r1.7, r1.8, r1.9, r1.10) else some (false, (s, t, n, NL.snoc ks r.4 r.5 r.3 r.6), r1.7, r1.8, r1.9, r1.10) else none else some (false, (s, t, n, ks), i, d, e, a)
theorem rB47c (p : PF) (L : List Wd) (s t : ByteArray) (n : Int) (ks : NL) (i d e a : Int) : RCb p L s t n ks i d e a = ofE (enC L) (st47c p L s t n ks i d e a) :=
  Eq.trans (b := bif e == 0 then bif decide ((↑(NL.len ks) : Int) > 0) then ob (p 38 (PArg.s (bS [112, 97, 114, 97, 109])) i d e a) fun r => bif tW L then bif Nat.ble (NL.len ks + 1) 4294967296 then bif Nat.ble (0 + NL.len ks * 4) (List.length (flatN ks)) then bif Nat.beq (0 + NL.len ks * 4) (List.length (flatN ks)) then ob (p 34 (PArg.s (bS [44])) r.7 r.8 r.9 r.10) fun r1 => bif tW L then bif r1.1 then bif tst (([] : List (FuncId × List Value)) = []) then bif tG L r1.7 r1.8 r1.9 r1.10 then bif tst (∀ (x : Value), x ∈ List.take (NL.len ks * 4) (flatN ks) ++ [vS r.4, vS r.5, vI r.3, kx r.6] → GVal x) then some (XA.normal, [pt 0, exF (Value.func (Go.Fn.func 48) { toList := [] } { toList := [pt 1] }), Value.slice none 0 0, Value.slice (some { block := 3, off := 0 }) (NL.len ks + 1) 1], [bX L r1.7 r1.8 r1.9 r1.10, Blk.row false 1 [pt 0], Blk.row false 1 [xS s, xS t, xI n, Value.slice none 0 0], Blk.row false 4 (List.map exF (List.take (NL.len ks * 4) (flatN ks) ++ [vS r.4, vS r.5, vI r.3, kx r.6]))]) else none else none else none else bif tst (([] : List (FuncId × List Value)) = []) then bif tst (∀ (x : Value), x ∈ List.take (NL.len ks * 4) (flatN ks) ++ [vS r.4, vS r.5, vI r.3, kx r.6] → GVal x) then bif tG L r1.7 r1.8 r1.9 r1.10 then some (XA.exit 0, [pt 0, exF (Value.func (Go.Fn.func 48) { toList := [] } { toList := [pt 1] }), gslV 0 0 false [], exF (gslV (NL.len ks + 1) 0 (Nat.beq 1 0) (List.map nf (List.take (NL.len ks * 4) (flatN ks) ++ [vS r.4, vS r.5, vI r.3, kx r.6])))], [bX L r1.7 r1.8 r1.9 r1.10, Blk.row false 1 [pt 0], Blk.row false 1 [xS s, xS t, xI n, gslV 0 0 false []]]) else none else none else none else none else none else none else none else none else ob (p 37 (PArg.x [(bS [41])]) i d e a) fun r => bif tW L then bif r.1 then bif tst (([] : List (FuncId × List Value)) = []) then bif tst (∀ (x : Value), x ∈ flatN ks → GVal x) then bif tG L r.7 r.8 r.9 r.10 then some (XA.exit 0, [pt 0, exF (Value.func (Go.Fn.func 48) { toList := [] } { toList := [pt 1] }), gslV 0 0 false [], exF (gslV (NL.len ks) 0 (Nat.beq 1 0) (List.map nf (flatN ks)))], [bX L r.7 r.8 r.9 r.10, Blk.row false 1 [pt 0], Blk.row false 1 [xS s, xS t, xI n, gslV 0 0 false []]]) else none else none else none else ob (p 38 (PArg.s (bS [112, 97, 114, 97, 109])) r.7 r.8 r.9 r.10) fun r => bif tW L then bif Nat.ble (NL.len ks + 1) 4294967296 then bif Nat.ble (0 + NL.len ks * 4) (List.length (flatN ks)) then bif Nat.beq (0 + NL.len ks * 4) (List.length (flatN ks)) then ob (p 34 (PArg.s (bS [44])) r.7 r.8 r.9 r.10) fun r1 => bif tW L then bif r1.1 then bif tst (([] : List (FuncId × List Value)) = []) then bif tG L r1.7 r1.8 r1.9 r1.10 then bif tst (∀ (x : Value), x ∈ List.take (NL.len ks * 4) (flatN ks) ++ [vS r.4, vS r.5, vI r.3, kx r.6] → GVal x) then some (XA.normal, [pt 0, exF (Value.func (Go.Fn.func 48) { toList := [] } { toList := [pt 1] }), Value.slice none 0 0, Value.slice (some { block := 3, off := 0 }) (NL.len ks + 1) 1], [bX L r1.7 r1.8 r1.9 r1.10, Blk.row false 1 [pt 0], Blk.row false 1 [xS s, xS t, xI n, Value.slice none 0 0], Blk.row false 4 (List.map exF (List.take (NL.len ks * 4) (flatN ks) ++ [vS r.4, vS r.5, vI r.3, kx r.6]))]) else none else none else none else bif tst (([] : List (FuncId × List Value)) = []) then bif tst (∀ (x : Value), x ∈ List.take (NL.len ks * 4) (flatN ks) ++ [vS r.4, vS r.5, vI r.3, kx r.6] → GVal x) then bif tG L r1.7 r1.8 r1.9 r1.10 then some (XA.exit 0, [pt 0, exF (Value.func (Go.Fn.func 48) { toList := [] } { toList := [pt 1] }), gslV 0 0 false [], exF (gslV (NL.len ks + 1) 0 (Nat.beq 1 0) (List.map nf (List.take (NL.len ks * 4) (flatN ks) ++ [vS r.4, vS r.5, vI r.3, kx r.6])))], [bX L r1.7 r1.8 r1.9 r1.10, Blk.row false 1 [pt 0], Blk.row false 1 [xS s, xS t, xI n, gslV 0 0 false []]]) else none else none else none else none else none else none else none else none else none else bif tst (([] : List (FuncId × List Value)) = []) then bif tst (∀ (x : Value), x ∈ flatN ks → GVal x) then bif tG L i d e a then some (XA.exit 0, [pt 0, exF (Value.func (Go.Fn.func 48) { toList := [] } { toList := [pt 1] }), gslV 0 0 false [], exF (gslV (NL.len ks) 0 (Nat.beq 1 0) (List.map nf (flatN ks)))], [bX L i d e a, Blk.row false 1 [pt 0], Blk.row false 1 [xS s, xS t, xI n, gslV 0 0 false []]]) else none else none else none) (by kernel_rfl) (Eq.trans (b := ofE (enC L) (bif e == 0 then bif decide ((↑(NL.len ks) : Int) > 0) then ob (p 38 (PArg.s (bS [112, 97, 114, 97, 109])) i d e a) fun r => bif Nat.ble (NL.len ks + 1) 4294967296 then ob (p 34 (PArg.s (bS [44])) r.7 r.8 r.9 r.10) fun r1 => bif r1.1 then some (true, (s, t, n, NL.snoc ks r.4 r.5 r.3 r.6), r1.7, r1.8, r1.9, r1.10) else some (false, (s, t, n, NL.snoc ks r.4 r.5 r.3 r.6), r1.7, r1.8, r1.9, r1.10) else none else ob (p 37 (PArg.x [(bS [41])]) i d e a) fun r => bif r.1 then some (false, (s, t, n, ks), r.7, r.8, r.9, r.10) else ob (p 38 (PArg.s (bS [112, 97, 114, 97, 109])) r.7 r.8 r.9 r.10) fun r => bif Nat.ble (NL.len ks + 1) 4294967296 then ob (p 34 (PArg.s (bS [44])) r.7 r.8 r.9 r.10) fun r1 => bif r1.1 then some (true, (s, t, n, NL.snoc ks r.4 r.5 r.3 r.6), r1.7, r1.8, r1.9, r1.10) else some (false, (s, t, n, NL.snoc ks r.4 r.5 r.3 r.6), r1.7, r1.8, r1.9, r1.10) else none else some (false, (s, t, n, ks), i, d, e, a))) (by simp only [oC_x, oC_n, oC_c, tW, tG, bX, bL, tH, tI, aA, aK, aS, bS, vS, vI, wI, xS, xI, xK, ob, tstT, tstTT, rT1, rT4, rT6, tst_n1, tst_n2, tst_n3, tst_n3z, tst_n1z, cond_true, Bool.and_true, Bool.true_and, SA]) (by kernel_rfl))

theorem rA47c (p : PF) (L : List Wd) (s t : ByteArray) (n i d e a : Int) : RCa p L s t n i d e a = ofE (enC L) (st47c p L s t n .nil i d e a) :=
  Eq.trans (b := bif e == 0 then ob (p 37 (PArg.x [(bS [41])]) i d e a) fun r => bif tW L then bif r.1 then bif tst (([] : List (FuncId × List Value)) = []) then bif tG L r.7 r.8 r.9 r.10 then some (XA.exit 0, [pt 0, exF (Value.func (Go.Fn.func 48) { toList := [] } { toList := [pt 1] }), gslV 0 0 false [], gslV 0 0 false []], [bX L r.7 r.8 r.9 r.10, Blk.row false 1 [pt 0], Blk.row false 1 [xS s, xS t, xI n, gslV 0 0 false []]]) else none else none else ob (p 38 (PArg.s (bS [112, 97, 114, 97, 109])) r.7 r.8 r.9 r.10) fun r => bif tW L then ob (p 34 (PArg.s (bS [44])) r.7 r.8 r.9 r.10) fun r1 => bif tW L then bif r1.1 then bif tst (([] : List (FuncId × List Value)) = []) then bif tG L r1.7 r1.8 r1.9 r1.10 then bif tst (∀ (x : Value), x ∈ [vS r.4, vS r.5, vI r.3, kx r.6] → GVal x) then some (XA.normal, [pt 0, exF (Value.func (Go.Fn.func 48) { toList := [] } { toList := [pt 1] }), Value.slice none 0 0, Value.slice (some { block := 3, off := 0 }) 1 1], [bX L r1.7 r1.8 r1.9 r1.10, Blk.row false 1 [pt 0], Blk.row false 1 [xS s, xS t, xI n, Value.slice none 0 0], Blk.row false 4 [xS r.4, xS r.5, xI r.3, exF (kx r.6)]]) else none else none else none else bif tst (([] : List (FuncId × List Value)) = []) then bif tst (∀ (x : Value), x ∈ [vS r.4, vS r.5, vI r.3, kx r.6] → GVal x) then bif tG L r1.7 r1.8 r1.9 r1.10 then some (XA.exit 0, [pt 0, exF (Value.func (Go.Fn.func 48) { toList := [] } { toList := [pt 1] }), gslV 0 0 false [], exF (gslV 1 0 (Nat.beq 1 0) [nf (vS r.4), nf (vS r.5), nf (vI r.3), nf (kx r.6)])], [bX L r1.7 r1.8 r1.9 r1.10, Blk.row false 1 [pt 0], Blk.row false 1 [xS s, xS t, xI n, gslV 0 0 false []]]) else none else none else none else none else none else none else bif tst (([] : List (FuncId × List Value)) = []) then bif tG L i d e a then some (XA.exit 0, [pt 0, exF (Value.func (Go.Fn.func 48) { toList := [] } { toList := [pt 1] }), gslV 0 0 false [], gslV 0 0 false []], [bX L i d e a, Blk.row false 1 [pt 0], Blk.row false 1 [xS s, xS t, xI n, gslV 0 0 false []]]) else none else none) (by kernel_rfl) (Eq.trans (b := ofE (enC L) (bif e == 0 then ob (p 37 (PArg.x [(bS [41])]) i d e a) fun r => bif r.1 then some (false, (s, t, n, NL.nil), r.7, r.8, r.9, r.10) else ob (p 38 (PArg.s (bS [112, 97, 114, 97, 109])) r.7 r.8 r.9 r.10) fun r => ob (p 34 (PArg.s (bS [44])) r.7 r.8 r.9 r.10) fun r1 => bif r1.1 then some (true, (s, t, n, NL.cons r.4 r.5 r.3 r.6 NL.nil), r1.7, r1.8, r1.9, r1.10) else some (false, (s, t, n, NL.cons r.4 r.5 r.3 r.6 NL.nil), r1.7, r1.8, r1.9, r1.10) else some (false, (s, t, n, NL.nil), i, d, e, a))) (by simp only [oC_x, oC_n, oC_c, tW, tG, bX, bL, tH, tI, aA, aK, aS, bS, vS, vI, wI, xS, xI, xK, ob, tstT, tstTT, rT1, rT4, rT6, tst_n1, tst_n2, tst_n3, tst_n3z, tst_n1z, cond_true, Bool.and_true, Bool.true_and, SA]) (by kernel_rfl))

noncomputable def stR0 (p : PF) (L : List Wd) (m : Int) (s t : ByteArray) (n : Int) (ks : NL) (j i d e a : Int) : Option (Bool × YR × SI) := ob (p 37 (PArg.x [(bS [124, 124])]) i d e a) fun r => bif r.1 then bif decide (j < m) then ob (p 44 PArg.u r.7 r.8 r.9 r.10) fun r => ob (p 70 PArg.u r.7 r.8 r.9 r.10) fun r1 => some (true, (((bS [98, 105, 110, 97, 114, 121]), r.4, r.3, NL.cons s t n ks (NL.cons r1.4 r1.5 r1.3 r1.6 NL.nil)), wI (j + 1)), r1.7, r1.8, r1.9, r1.10) else some (false, ((s, t, n, ks), j), r.7, r.8, r.9, r.10) else some (false, ((s, t, n, ks), j), r.7, r.8, r.9, r.10)
theorem rR0 (p : PF) (L : List Wd) (m : Int) (s t : ByteArray) (n : Int) (ks : NL) (j i d e a : Int) : RRv p L m rG0 rC0 s t n ks j i d e a = ofE (enR m rG0 rC0 L) (stR0 p L m s t n ks j i d e a) :=
  Eq.trans (b := bif tst (GVal (Value.iface 4294967296 (Value.tuple { toList := [Value.slice none 1 0, Value.bool false, vS (bS [124, 124])] }))) then ob (p 37 (PArg.x [(bS [124, 124])]) i d e a) fun r => bif tW L then bif r.1 then bif decide (j < m) then ob (p 44 PArg.u r.7 r.8 r.9 r.10) fun r => bif tW L then ob (p 70 PArg.u r.7 r.8 r.9 r.10) fun r1 => bif tW L then bif tst (([] : List (FuncId × List Value)) = []) then bif tG L r1.7 r1.8 r1.9 r1.10 then bif tst (∀ (x : Value), x ∈ [vS s, vS t, vI n, kv ks, vS r1.4, vS r1.5, vI r1.3, kv r1.6] → GVal x) then some (XA.normal, [pt 0, xI m, exF (Value.func (Go.Fn.func 70) { toList := [pt 0] } { toList := [] }), exF (gslV 1 0 false [vS (bS [124, 124])]), pt 1, pt 2, xI (wI (j + 1))], [bX L r1.7 r1.8 r1.9 r1.10, Blk.row false 1 [xS (bS []), xS (bS []), xI 0, xK NL.nil], Blk.row false 1 [xS (bS [98, 105, 110, 97, 114, 121]), xS r.4, xI r.3, exF (gslV 2 0 (Nat.beq 0 0) [nf (vS s), nf (vS t), nf (vI n), nf (kv ks), nf (vS r1.4), nf (vS r1.5), nf (vI r1.3), nf (kv r1.6)])]]) else none else none else none else none else none else bif tst (([] : List (FuncId × List Value)) = []) then bif tG L r.7 r.8 r.9 r.10 then some (XA.exit 0, [pt 0, xI m, exF (Value.func (Go.Fn.func 70) { toList := [pt 0] } { toList := [] }), exF (gslV 1 0 false [vS (bS [124, 124])]), pt 1, pt 2, xI j], [bX L r.7 r.8 r.9 r.10, Blk.row false 1 [xS (bS []), xS (bS []), xI 0, xK NL.nil], Blk.row false 1 [xS s, xS t, xI n, xK ks]]) else none else none else bif tst (([] : List (FuncId × List Value)) = []) then bif tG L r.7 r.8 r.9 r.10 then some (XA.exit 0, [pt 0, xI m, exF (Value.func (Go.Fn.func 70) { toList := [pt 0] } { toList := [] }), exF (gslV 1 0 false [vS (bS [124, 124])]), pt 1, pt 2, xI j], [bX L r.7 r.8 r.9 r.10, Blk.row false 1 [xS (bS []), xS (bS []), xI 0, xK NL.nil], Blk.row false 1 [xS s, xS t, xI n, xK ks]]) else none else none else none else none) (by kernel_rfl) (Eq.trans (b := ofE (enR m rG0 rC0 L) (ob (p 37 (PArg.x [(bS [124, 124])]) i d e a) fun r => bif r.1 then bif decide (j < m) then ob (p 44 PArg.u r.7 r.8 r.9 r.10) fun r => ob (p 70 PArg.u r.7 r.8 r.9 r.10) fun r1 => some (true, (((bS [98, 105, 110, 97, 114, 121]), r.4, r.3, NL.cons s t n ks (NL.cons r1.4 r1.5 r1.3 r1.6 NL.nil)), wI (j + 1)), r1.7, r1.8, r1.9, r1.10) else some (false, ((s, t, n, ks), j), r.7, r.8, r.9, r.10) else some (false, ((s, t, n, ks), j), r.7, r.8, r.9, r.10))) (by simp only [oR0_x, oR0_n, tW, tG, bX, bL, tH, tI, aA, aK, aS, bS, vS, vI, wI, xS, xI, xK, ob, tstT, tstTT, rT1, rT4, rT6, tst_n1, tst_n2, tst_n3, tst_n3z, tst_n1z, cond_true, Bool.and_true, Bool.true_and, SA]) (by kernel_rfl))

noncomputable def stR1 (p : PF) (L : List Wd) (m : Int) (s t : ByteArray) (n : Int) (ks : NL) (j i d e a : Int) : Option (Bool × YR × SI) := ob (p 37 (PArg.x [(bS [38, 38])]) i d e a) fun r => bif r.1 then bif decide (j < m) then ob (p 44 PArg.u r.7 r.8 r.9 r.10) fun r => ob (p 72 PArg.u r.7 r.8 r.9 r.10) fun r1 => some (true, (((bS [98, 105, 110, 97, 114, 121]), r.4, r.3, NL.cons s t n ks (NL.cons r1.4 r1.5 r1.3 r1.6 NL.nil)), wI (j + 1)), r1.7, r1.8, r1.9, r1.10) else some (false, ((s, t, n, ks), j), r.7, r.8, r.9, r.10) else some (false, ((s, t, n, ks), j), r.7, r.8, r.9, r.10)
theorem rR1 (p : PF) (L : List Wd) (m : Int) (s t : ByteArray) (n : Int) (ks : NL) (j i d e a : Int) : RRv p L m rG1 rC1 s t n ks j i d e a = ofE (enR m rG1 rC1 L) (stR1 p L m s t n ks j i d e a) :=
  Eq.trans (b := bif tst (GVal (Value.iface 4294967296 (Value.tuple { toList := [Value.slice none 1 0, Value.bool false, vS (bS [38, 38])] }))) then ob (p 37 (PArg.x [(bS [38, 38])]) i d e a) fun r => bif tW L then bif r.1 then bif decide (j < m) then ob (p 44 PArg.u r.7 r.8 r.9 r.10) fun r => bif tW L then ob (p 72 PArg.u r.7 r.8 r.9 r.10) fun r1 => bif tW L then bif tst (([] : List (FuncId × List Value)) = []) then bif tG L r1.7 r1.8 r1.9 r1.10 then bif tst (∀ (x : Value), x ∈ [vS s, vS t, vI n, kv ks, vS r1.4, vS r1.5, vI r1.3, kv r1.6] → GVal x) then some (XA.normal, [pt 0, xI m, exF (Value.func (Go.Fn.func 72) { toList := [pt 0] } { toList := [] }), exF (gslV 1 0 false [vS (bS [38, 38])]), pt 1, pt 2, xI (wI (j + 1))], [bX L r1.7 r1.8 r1.9 r1.10, Blk.row false 1 [xS (bS []), xS (bS []), xI 0, xK NL.nil], Blk.row false 1 [xS (bS [98, 105, 110, 97, 114, 121]), xS r.4, xI r.3, exF (gslV 2 0 (Nat.beq 0 0) [nf (vS s), nf (vS t), nf (vI n), nf (kv ks), nf (vS r1.4), nf (vS r1.5), nf (vI r1.3), nf (kv r1.6)])]]) else none else none else none else none else none else bif tst (([] : List (FuncId × List Value)) = []) then bif tG L r.7 r.8 r.9 r.10 then some (XA.exit 0, [pt 0, xI m, exF (Value.func (Go.Fn.func 72) { toList := [pt 0] } { toList := [] }), exF (gslV 1 0 false [vS (bS [38, 38])]), pt 1, pt 2, xI j], [bX L r.7 r.8 r.9 r.10, Blk.row false 1 [xS (bS []), xS (bS []), xI 0, xK NL.nil], Blk.row false 1 [xS s, xS t, xI n, xK ks]]) else none else none else bif tst (([] : List (FuncId × List Value)) = []) then bif tG L r.7 r.8 r.9 r.10 then some (XA.exit 0, [pt 0, xI m, exF (Value.func (Go.Fn.func 72) { toList := [pt 0] } { toList := [] }), exF (gslV 1 0 false [vS (bS [38, 38])]), pt 1, pt 2, xI j], [bX L r.7 r.8 r.9 r.10, Blk.row false 1 [xS (bS []), xS (bS []), xI 0, xK NL.nil], Blk.row false 1 [xS s, xS t, xI n, xK ks]]) else none else none else none else none) (by kernel_rfl) (Eq.trans (b := ofE (enR m rG1 rC1 L) (ob (p 37 (PArg.x [(bS [38, 38])]) i d e a) fun r => bif r.1 then bif decide (j < m) then ob (p 44 PArg.u r.7 r.8 r.9 r.10) fun r => ob (p 72 PArg.u r.7 r.8 r.9 r.10) fun r1 => some (true, (((bS [98, 105, 110, 97, 114, 121]), r.4, r.3, NL.cons s t n ks (NL.cons r1.4 r1.5 r1.3 r1.6 NL.nil)), wI (j + 1)), r1.7, r1.8, r1.9, r1.10) else some (false, ((s, t, n, ks), j), r.7, r.8, r.9, r.10) else some (false, ((s, t, n, ks), j), r.7, r.8, r.9, r.10))) (by simp only [oR1_x, oR1_n, tW, tG, bX, bL, tH, tI, aA, aK, aS, bS, vS, vI, wI, xS, xI, xK, ob, tstT, tstTT, rT1, rT4, rT6, tst_n1, tst_n2, tst_n3, tst_n3z, tst_n1z, cond_true, Bool.and_true, Bool.true_and, SA]) (by kernel_rfl))

noncomputable def stR2 (p : PF) (L : List Wd) (m : Int) (s t : ByteArray) (n : Int) (ks : NL) (j i d e a : Int) : Option (Bool × YR × SI) := ob (p 37 (PArg.x [(bS [61, 61]), (bS [33, 61]), (bS [60]), (bS [60, 61]), (bS [62]), (bS [62, 61])]) i d e a) fun r => bif r.1 then bif decide (j < m) then ob (p 44 PArg.u r.7 r.8 r.9 r.10) fun r => ob (p 77 PArg.u r.7 r.8 r.9 r.10) fun r1 => some (true, (((bS [98, 105, 110, 97, 114, 121]), r.4, r.3, NL.cons s t n ks (NL.cons r1.4 r1.5 r1.3 r1.6 NL.nil)), wI (j + 1)), r1.7, r1.8, r1.9, r1.10) else some (false, ((s, t, n, ks), j), r.7, r.8, r.9, r.10) else some (false, ((s, t, n, ks), j), r.7, r.8, r.9, r.10)
theorem rR2 (p : PF) (L : List Wd) (m : Int) (s t : ByteArray) (n : Int) (ks : NL) (j i d e a : Int) : RRv p L m rG2 rC2 s t n ks j i d e a = ofE (enR m rG2 rC2 L) (stR2 p L m s t n ks j i d e a) :=
  Eq.trans (b := bif tst (GVal (Value.iface 4294967296 (Value.tuple { toList := [Value.slice none 6 0, Value.bool false, vS (bS [61, 61]), vS (bS [33, 61]), vS (bS [60]), vS (bS [60, 61]), vS (bS [62]), vS (bS [62, 61])] }))) then ob (p 37 (PArg.x [(bS [61, 61]), (bS [33, 61]), (bS [60]), (bS [60, 61]), (bS [62]), (bS [62, 61])]) i d e a) fun r => bif tW L then bif r.1 then bif decide (j < m) then ob (p 44 PArg.u r.7 r.8 r.9 r.10) fun r => bif tW L then ob (p 77 PArg.u r.7 r.8 r.9 r.10) fun r1 => bif tW L then bif tst (([] : List (FuncId × List Value)) = []) then bif tG L r1.7 r1.8 r1.9 r1.10 then bif tst (∀ (x : Value), x ∈ [vS s, vS t, vI n, kv ks, vS r1.4, vS r1.5, vI r1.3, kv r1.6] → GVal x) then some (XA.normal, [pt 0, xI m, exF (Value.func (Go.Fn.func 77) { toList := [pt 0] } { toList := [] }), exF (gslV 6 0 false [vS (bS [61, 61]), vS (bS [33, 61]), vS (bS [60]), vS (bS [60, 61]), vS (bS [62]), vS (bS [62, 61])]), pt 1, pt 2, xI (wI (j + 1))], [bX L r1.7 r1.8 r1.9 r1.10, Blk.row false 1 [xS (bS []), xS (bS []), xI 0, xK NL.nil], Blk.row false 1 [xS (bS [98, 105, 110, 97, 114, 121]), xS r.4, xI r.3, exF (gslV 2 0 (Nat.beq 0 0) [nf (vS s), nf (vS t), nf (vI n), nf (kv ks), nf (vS r1.4), nf (vS r1.5), nf (vI r1.3), nf (kv r1.6)])]]) else none else none else none else none else none else bif tst (([] : List (FuncId × List Value)) = []) then bif tG L r.7 r.8 r.9 r.10 then some (XA.exit 0, [pt 0, xI m, exF (Value.func (Go.Fn.func 77) { toList := [pt 0] } { toList := [] }), exF (gslV 6 0 false [vS (bS [61, 61]), vS (bS [33, 61]), vS (bS [60]), vS (bS [60, 61]), vS (bS [62]), vS (bS [62, 61])]), pt 1, pt 2, xI j], [bX L r.7 r.8 r.9 r.10, Blk.row false 1 [xS (bS []), xS (bS []), xI 0, xK NL.nil], Blk.row false 1 [xS s, xS t, xI n, xK ks]]) else none else none else bif tst (([] : List (FuncId × List Value)) = []) then bif tG L r.7 r.8 r.9 r.10 then some (XA.exit 0, [pt 0, xI m, exF (Value.func (Go.Fn.func 77) { toList := [pt 0] } { toList := [] }), exF (gslV 6 0 false [vS (bS [61, 61]), vS (bS [33, 61]), vS (bS [60]), vS (bS [60, 61]), vS (bS [62]), vS (bS [62, 61])]), pt 1, pt 2, xI j], [bX L r.7 r.8 r.9 r.10, Blk.row false 1 [xS (bS []), xS (bS []), xI 0, xK NL.nil], Blk.row false 1 [xS s, xS t, xI n, xK ks]]) else none else none else none else none) (by kernel_rfl) (Eq.trans (b := ofE (enR m rG2 rC2 L) (ob (p 37 (PArg.x [(bS [61, 61]), (bS [33, 61]), (bS [60]), (bS [60, 61]), (bS [62]), (bS [62, 61])]) i d e a) fun r => bif r.1 then bif decide (j < m) then ob (p 44 PArg.u r.7 r.8 r.9 r.10) fun r => ob (p 77 PArg.u r.7 r.8 r.9 r.10) fun r1 => some (true, (((bS [98, 105, 110, 97, 114, 121]), r.4, r.3, NL.cons s t n ks (NL.cons r1.4 r1.5 r1.3 r1.6 NL.nil)), wI (j + 1)), r1.7, r1.8, r1.9, r1.10) else some (false, ((s, t, n, ks), j), r.7, r.8, r.9, r.10) else some (false, ((s, t, n, ks), j), r.7, r.8, r.9, r.10))) (by simp only [oR2_x, oR2_n, tW, tG, bX, bL, tH, tI, aA, aK, aS, bS, vS, vI, wI, xS, xI, xK, ob, tstT, tstTT, rT1, rT4, rT6, tst_n1, tst_n2, tst_n3, tst_n3z, tst_n1z, cond_true, Bool.and_true, Bool.true_and, SA]) (by kernel_rfl))

noncomputable def stR3 (p : PF) (L : List Wd) (m : Int) (s t : ByteArray) (n : Int) (ks : NL) (j i d e a : Int) : Option (Bool × YR × SI) := ob (p 37 (PArg.x [(bS [43]), (bS [45]), (bS [124]), (bS [94])]) i d e a) fun r => bif r.1 then bif decide (j < m) then ob (p 44 PArg.u r.7 r.8 r.9 r.10) fun r => ob (p 83 PArg.u r.7 r.8 r.9 r.10) fun r1 => some (true, (((bS [98, 105, 110, 97, 114, 121]), r.4, r.3, NL.cons s t n ks (NL.cons r1.4 r1.5 r1.3 r1.6 NL.nil)), wI (j + 1)), r1.7, r1.8, r1.9, r1.10) else some (false, ((s, t, n, ks), j), r.7, r.8, r.9, r.10) else some (false, ((s, t, n, ks), j), r.7, r.8, r.9, r.10)
theorem rR3 (p : PF) (L : List Wd) (m : Int) (s t : ByteArray) (n : Int) (ks : NL) (j i d e a : Int) : RRv p L m rG3 rC3 s t n ks j i d e a = ofE (enR m rG3 rC3 L) (stR3 p L m s t n ks j i d e a) :=
  Eq.trans (b := bif tst (GVal (Value.iface 4294967296 (Value.tuple { toList := [Value.slice none 4 0, Value.bool false, vS (bS [43]), vS (bS [45]), vS (bS [124]), vS (bS [94])] }))) then ob (p 37 (PArg.x [(bS [43]), (bS [45]), (bS [124]), (bS [94])]) i d e a) fun r => bif tW L then bif r.1 then bif decide (j < m) then ob (p 44 PArg.u r.7 r.8 r.9 r.10) fun r => bif tW L then ob (p 83 PArg.u r.7 r.8 r.9 r.10) fun r1 => bif tW L then bif tst (([] : List (FuncId × List Value)) = []) then bif tG L r1.7 r1.8 r1.9 r1.10 then bif tst (∀ (x : Value), x ∈ [vS s, vS t, vI n, kv ks, vS r1.4, vS r1.5, vI r1.3, kv r1.6] → GVal x) then some (XA.normal, [pt 0, xI m, exF (Value.func (Go.Fn.func 83) { toList := [pt 0] } { toList := [] }), exF (gslV 4 0 false [vS (bS [43]), vS (bS [45]), vS (bS [124]), vS (bS [94])]), pt 1, pt 2, xI (wI (j + 1))], [bX L r1.7 r1.8 r1.9 r1.10, Blk.row false 1 [xS (bS []), xS (bS []), xI 0, xK NL.nil], Blk.row false 1 [xS (bS [98, 105, 110, 97, 114, 121]), xS r.4, xI r.3, exF (gslV 2 0 (Nat.beq 0 0) [nf (vS s), nf (vS t), nf (vI n), nf (kv ks), nf (vS r1.4), nf (vS r1.5), nf (vI r1.3), nf (kv r1.6)])]]) else none else none else none else none else none else bif tst (([] : List (FuncId × List Value)) = []) then bif tG L r.7 r.8 r.9 r.10 then some (XA.exit 0, [pt 0, xI m, exF (Value.func (Go.Fn.func 83) { toList := [pt 0] } { toList := [] }), exF (gslV 4 0 false [vS (bS [43]), vS (bS [45]), vS (bS [124]), vS (bS [94])]), pt 1, pt 2, xI j], [bX L r.7 r.8 r.9 r.10, Blk.row false 1 [xS (bS []), xS (bS []), xI 0, xK NL.nil], Blk.row false 1 [xS s, xS t, xI n, xK ks]]) else none else none else bif tst (([] : List (FuncId × List Value)) = []) then bif tG L r.7 r.8 r.9 r.10 then some (XA.exit 0, [pt 0, xI m, exF (Value.func (Go.Fn.func 83) { toList := [pt 0] } { toList := [] }), exF (gslV 4 0 false [vS (bS [43]), vS (bS [45]), vS (bS [124]), vS (bS [94])]), pt 1, pt 2, xI j], [bX L r.7 r.8 r.9 r.10, Blk.row false 1 [xS (bS []), xS (bS []), xI 0, xK NL.nil], Blk.row false 1 [xS s, xS t, xI n, xK ks]]) else none else none else none else none) (by kernel_rfl) (Eq.trans (b := ofE (enR m rG3 rC3 L) (ob (p 37 (PArg.x [(bS [43]), (bS [45]), (bS [124]), (bS [94])]) i d e a) fun r => bif r.1 then bif decide (j < m) then ob (p 44 PArg.u r.7 r.8 r.9 r.10) fun r => ob (p 83 PArg.u r.7 r.8 r.9 r.10) fun r1 => some (true, (((bS [98, 105, 110, 97, 114, 121]), r.4, r.3, NL.cons s t n ks (NL.cons r1.4 r1.5 r1.3 r1.6 NL.nil)), wI (j + 1)), r1.7, r1.8, r1.9, r1.10) else some (false, ((s, t, n, ks), j), r.7, r.8, r.9, r.10) else some (false, ((s, t, n, ks), j), r.7, r.8, r.9, r.10))) (by simp only [oR3_x, oR3_n, tW, tG, bX, bL, tH, tI, aA, aK, aS, bS, vS, vI, wI, xS, xI, xK, ob, tstT, tstTT, rT1, rT4, rT6, tst_n1, tst_n2, tst_n3, tst_n3z, tst_n1z, cond_true, Bool.and_true, Bool.true_and, SA]) (by kernel_rfl))

noncomputable def stR4 (p : PF) (L : List Wd) (m : Int) (s t : ByteArray) (n : Int) (ks : NL) (j i d e a : Int) : Option (Bool × YR × SI) := ob (p 37 (PArg.x [(bS [42]), (bS [47]), (bS [37]), (bS [60, 60]), (bS [62, 62]), (bS [38])]) i d e a) fun r => bif r.1 then bif decide (j < m) then ob (p 44 PArg.u r.7 r.8 r.9 r.10) fun r => ob (p 86 PArg.u r.7 r.8 r.9 r.10) fun r1 => some (true, (((bS [98, 105, 110, 97, 114, 121]), r.4, r.3, NL.cons s t n ks (NL.cons r1.4 r1.5 r1.3 r1.6 NL.nil)), wI (j + 1)), r1.7, r1.8, r1.9, r1.10) else some (false, ((s, t, n, ks), j), r.7, r.8, r.9, r.10) else some (false, ((s, t, n, ks), j), r.7, r.8, r.9, r.10)
theorem rR4 (p : PF) (L : List Wd) (m : Int) (s t : ByteArray) (n : Int) (ks : NL) (j i d e a : Int) : RRv p L m rG4 rC4 s t n ks j i d e a = ofE (enR m rG4 rC4 L) (stR4 p L m s t n ks j i d e a) :=
  Eq.trans (b := bif tst (GVal (Value.iface 4294967296 (Value.tuple { toList := [Value.slice none 6 0, Value.bool false, vS (bS [42]), vS (bS [47]), vS (bS [37]), vS (bS [60, 60]), vS (bS [62, 62]), vS (bS [38])] }))) then ob (p 37 (PArg.x [(bS [42]), (bS [47]), (bS [37]), (bS [60, 60]), (bS [62, 62]), (bS [38])]) i d e a) fun r => bif tW L then bif r.1 then bif decide (j < m) then ob (p 44 PArg.u r.7 r.8 r.9 r.10) fun r => bif tW L then ob (p 86 PArg.u r.7 r.8 r.9 r.10) fun r1 => bif tW L then bif tst (([] : List (FuncId × List Value)) = []) then bif tG L r1.7 r1.8 r1.9 r1.10 then bif tst (∀ (x : Value), x ∈ [vS s, vS t, vI n, kv ks, vS r1.4, vS r1.5, vI r1.3, kv r1.6] → GVal x) then some (XA.normal, [pt 0, xI m, exF (Value.func (Go.Fn.func 86) { toList := [pt 0] } { toList := [] }), exF (gslV 6 0 false [vS (bS [42]), vS (bS [47]), vS (bS [37]), vS (bS [60, 60]), vS (bS [62, 62]), vS (bS [38])]), pt 1, pt 2, xI (wI (j + 1))], [bX L r1.7 r1.8 r1.9 r1.10, Blk.row false 1 [xS (bS []), xS (bS []), xI 0, xK NL.nil], Blk.row false 1 [xS (bS [98, 105, 110, 97, 114, 121]), xS r.4, xI r.3, exF (gslV 2 0 (Nat.beq 0 0) [nf (vS s), nf (vS t), nf (vI n), nf (kv ks), nf (vS r1.4), nf (vS r1.5), nf (vI r1.3), nf (kv r1.6)])]]) else none else none else none else none else none else bif tst (([] : List (FuncId × List Value)) = []) then bif tG L r.7 r.8 r.9 r.10 then some (XA.exit 0, [pt 0, xI m, exF (Value.func (Go.Fn.func 86) { toList := [pt 0] } { toList := [] }), exF (gslV 6 0 false [vS (bS [42]), vS (bS [47]), vS (bS [37]), vS (bS [60, 60]), vS (bS [62, 62]), vS (bS [38])]), pt 1, pt 2, xI j], [bX L r.7 r.8 r.9 r.10, Blk.row false 1 [xS (bS []), xS (bS []), xI 0, xK NL.nil], Blk.row false 1 [xS s, xS t, xI n, xK ks]]) else none else none else bif tst (([] : List (FuncId × List Value)) = []) then bif tG L r.7 r.8 r.9 r.10 then some (XA.exit 0, [pt 0, xI m, exF (Value.func (Go.Fn.func 86) { toList := [pt 0] } { toList := [] }), exF (gslV 6 0 false [vS (bS [42]), vS (bS [47]), vS (bS [37]), vS (bS [60, 60]), vS (bS [62, 62]), vS (bS [38])]), pt 1, pt 2, xI j], [bX L r.7 r.8 r.9 r.10, Blk.row false 1 [xS (bS []), xS (bS []), xI 0, xK NL.nil], Blk.row false 1 [xS s, xS t, xI n, xK ks]]) else none else none else none else none) (by kernel_rfl) (Eq.trans (b := ofE (enR m rG4 rC4 L) (ob (p 37 (PArg.x [(bS [42]), (bS [47]), (bS [37]), (bS [60, 60]), (bS [62, 62]), (bS [38])]) i d e a) fun r => bif r.1 then bif decide (j < m) then ob (p 44 PArg.u r.7 r.8 r.9 r.10) fun r => ob (p 86 PArg.u r.7 r.8 r.9 r.10) fun r1 => some (true, (((bS [98, 105, 110, 97, 114, 121]), r.4, r.3, NL.cons s t n ks (NL.cons r1.4 r1.5 r1.3 r1.6 NL.nil)), wI (j + 1)), r1.7, r1.8, r1.9, r1.10) else some (false, ((s, t, n, ks), j), r.7, r.8, r.9, r.10) else some (false, ((s, t, n, ks), j), r.7, r.8, r.9, r.10))) (by simp only [oR4_x, oR4_n, tW, tG, bX, bL, tH, tI, aA, aK, aS, bS, vS, vI, wI, xS, xI, xK, ob, tstT, tstTT, rT1, rT4, rT6, tst_n1, tst_n2, tst_n3, tst_n3z, tst_n1z, cond_true, Bool.and_true, Bool.true_and, SA]) (by kernel_rfl))

noncomputable def stP87 (p : PF) (L : List Wd) (s t : ByteArray) (n : Int) (ks : NL) (i d e a : Int) : Option (Bool × YL × SI) := bif Rd.has (rd L) i then ob (p 34 (PArg.s (bS [40])) i d e a) fun r => bif r.1 then ob (p 47 (PArg.f 89) r.7 r.8 r.9 r.10) fun r => bif Nat.beq (NL.len r.6) 0 then some (true, ((bS [99, 97, 108, 108]), (bS []), Rd.a (rd L) i, NL.cons s t n ks NL.nil), r.7, r.8, r.9, r.10) else bif Nat.ble (1 + NL.len r.6) 4294967296 then some (true, ((bS [99, 97, 108, 108]), (bS []), Rd.a (rd L) i, NL.cons s t n ks r.6), r.7, r.8, r.9, r.10) else none else ob (p 34 (PArg.s (bS [91])) r.7 r.8 r.9 r.10) fun r => bif r.1 then ob (p 89 PArg.u r.7 r.8 r.9 r.10) fun r => ob (p 36 (PArg.s (bS [93])) r.7 r.8 r.9 r.10) fun r1 => some (true, ((bS [105, 110, 100, 101, 120]), (bS []), Rd.a (rd L) i, NL.cons s t n ks (NL.cons r.4 r.5 r.3 r.6 NL.nil)), r1.7, r1.8, r1.9, r1.10) else ob (p 34 (PArg.s (bS [46])) r.7 r.8 r.9 r.10) fun r => bif r.1 then ob (p 35 PArg.u r.7 r.8 r.9 r.10) fun r => some (true, ((bS [100, 111, 116]), r.4, Rd.a (rd L) i, NL.cons s t n ks NL.nil), r.7, r.8, r.9, r.10) else some (false, (s, t, n, ks), r.7, r.8, r.9, r.10) else none
theorem rP87 (p : PF) (L : List Wd) (s t : ByteArray) (n : Int) (ks : NL) (i d e a : Int) : RPv p L s t n ks i d e a = ofE (enP L) (stP87 p L s t n ks i d e a) :=
  Eq.trans (b := bif tH L i then bif tI L i then ob (p 34 (PArg.s (bS [40])) i d e a) fun r => bif tW L then bif r.1 then ob (p 47 (PArg.f 89) r.7 r.8 r.9 r.10) fun r => bif tW L then bif Nat.ble (0 + NL.len r.6 * 4) (List.length (flatN r.6)) then bif Nat.beq (NL.len r.6) 0 then bif tst (([] : List (FuncId × List Value)) = []) then bif tG L r.7 r.8 r.9 r.10 then bif tst (∀ (x : Value), x ∈ [vS s, vS t, vI n, kv ks] → GVal x) then some (XA.normal, [pt 0, pt 1, pt 2], [bX L r.7 r.8 r.9 r.10, Blk.row false 1 [xS (bS []), xS (bS []), xI 0, xK NL.nil], Blk.row false 1 [xS (bS [99, 97, 108, 108]), xS (bS []), xI (aA L i), exF (gslV 1 0 (Nat.beq 0 0) [nf (vS s), nf (vS t), nf (vI n), nf (kv ks)])]]) else none else none else none else bif Nat.ble (1 + NL.len r.6) 4294967296 then bif tst (([] : List (FuncId × List Value)) = []) then bif tG L r.7 r.8 r.9 r.10 then bif tst (∀ (x : Value), x ∈ vS s :: vS t :: vI n :: kv ks :: List.take (NL.len r.6 * 4) (flatN r.6) → GVal x) then some (XA.normal, [pt 0, pt 1, pt 2], [bX L r.7 r.8 r.9 r.10, Blk.row false 1 [xS (bS []), xS (bS []), xI 0, xK NL.nil], Blk.row false 1 [xS (bS [99, 97, 108, 108]), xS (bS []), xI (aA L i), exF (gslV (1 + NL.len r.6) 0 (Nat.beq 1 0) (nf (vS s) :: nf (vS t) :: nf (vI n) :: nf (kv ks) :: List.map nf (List.take (NL.len r.6 * 4) (flatN r.6))))]]) else none else none else none else none else none else none else ob (p 34 (PArg.s (bS [91])) r.7 r.8 r.9 r.10) fun r => bif tW L then bif r.1 then ob (p 89 PArg.u r.7 r.8 r.9 r.10) fun r => bif tW L then ob (p 36 (PArg.s (bS [93])) r.7 r.8 r.9 r.10) fun r1 => bif tW L then bif tst (([] : List (FuncId × List Value)) = []) then bif tG L r1.7 r1.8 r1.9 r1.10 then bif tst (∀ (x : Value), x ∈ [vS s, vS t, vI n, kv ks, vS r.4, vS r.5, vI r.3, kv r.6] → GVal x) then some (XA.normal, [pt 0, pt 1, pt 2], [bX L r1.7 r1.8 r1.9 r1.10, Blk.row false 1 [xS (bS []), xS (bS []), xI 0, xK NL.nil], Blk.row false 1 [xS (bS [105, 110, 100, 101, 120]), xS (bS []), xI (aA L i), exF (gslV 2 0 (Nat.beq 0 0) [nf (vS s), nf (vS t), nf (vI n), nf (kv ks), nf (vS r.4), nf (vS r.5), nf (vI r.3), nf (kv r.6)])]]) else none else none else none else none else none else ob (p 34 (PArg.s (bS [46])) r.7 r.8 r.9 r.10) fun r => bif tW L then bif r.1 then ob (p 35 PArg.u r.7 r.8 r.9 r.10) fun r => bif tW L then bif tst (([] : List (FuncId × List Value)) = []) then bif tG L r.7 r.8 r.9 r.10 then bif tst (∀ (x : Value), x ∈ [vS s, vS t, vI n, kv ks] → GVal x) then some (XA.normal, [pt 0, pt 1, pt 2], [bX L r.7 r.8 r.9 r.10, Blk.row false 1 [xS (bS []), xS (bS []), xI 0, xK NL.nil], Blk.row false 1 [xS (bS [100, 111, 116]), xS r.4, xI (aA L i), exF (gslV 1 0 (Nat.beq 0 0) [nf (vS s), nf (vS t), nf (vI n), nf (kv ks)])]]) else none else none else none else none else bif tst (([] : List (FuncId × List Value)) = []) then bif tG L r.7 r.8 r.9 r.10 then some (XA.ret, [pt 0, pt 1, pt 2], [bX L r.7 r.8 r.9 r.10, Blk.row false 1 [xS s, xS t, xI n, xK ks], Blk.row false 1 [xS s, xS t, xI n, xK ks]]) else none else none else none else none else none else none else none) (by kernel_rfl) (Eq.trans (b := ofE (enP L) (bif Rd.has (rd L) i then ob (p 34 (PArg.s (bS [40])) i d e a) fun r => bif r.1 then ob (p 47 (PArg.f 89) r.7 r.8 r.9 r.10) fun r => bif Nat.beq (NL.len r.6) 0 then some (true, ((bS [99, 97, 108, 108]), (bS []), Rd.a (rd L) i, NL.cons s t n ks NL.nil), r.7, r.8, r.9, r.10) else bif Nat.ble (1 + NL.len r.6) 4294967296 then some (true, ((bS [99, 97, 108, 108]), (bS []), Rd.a (rd L) i, NL.cons s t n ks r.6), r.7, r.8, r.9, r.10) else none else ob (p 34 (PArg.s (bS [91])) r.7 r.8 r.9 r.10) fun r => bif r.1 then ob (p 89 PArg.u r.7 r.8 r.9 r.10) fun r => ob (p 36 (PArg.s (bS [93])) r.7 r.8 r.9 r.10) fun r1 => some (true, ((bS [105, 110, 100, 101, 120]), (bS []), Rd.a (rd L) i, NL.cons s t n ks (NL.cons r.4 r.5 r.3 r.6 NL.nil)), r1.7, r1.8, r1.9, r1.10) else ob (p 34 (PArg.s (bS [46])) r.7 r.8 r.9 r.10) fun r => bif r.1 then ob (p 35 PArg.u r.7 r.8 r.9 r.10) fun r => some (true, ((bS [100, 111, 116]), r.4, Rd.a (rd L) i, NL.cons s t n ks NL.nil), r.7, r.8, r.9, r.10) else some (false, (s, t, n, ks), r.7, r.8, r.9, r.10) else none)) (by simp only [oP_x, oP_n, tW, tG, bX, bL, tH, tI, aA, aK, aS, bS, vS, vI, wI, xS, xI, xK, ob, tstT, tstTT, rT1, rT4, rT6, tst_n1, tst_n2, tst_n3, tst_n3z, tst_n1z, cond_true, Bool.and_true, Bool.true_and, SA]) (by kernel_rfl))
abbrev St9 := ByteArray → ByteArray → Int → NL → Int → Int → Int → Int → Option (Bool × YL × SI)
/-- Loops that make rows, so many rounds at most. -/
noncomputable def lpL (st : St9) (m : Nat) : YL → SI → Option (YL × SI) := iterY (fun y s => st y.1 y.2.1 y.2.2.1 y.2.2.2 s.1 s.2.1 s.2.2.1 s.2.2.2) m
noncomputable def lpM (st : NL → Int → Int → Int → Int → Option (Bool × NL × SI)) (m : Nat) : NL → SI → Option (NL × SI) := iterY (fun y s => st y s.1 s.2.1 s.2.2.1 s.2.2.2) m
noncomputable def lpR (st : ByteArray → ByteArray → Int → NL → Int → Int → Int → Int → Int → Option (Bool × YR × SI)) (m : Nat) : YR → SI → Option (YR × SI) := iterY (fun y s => st y.1.1 y.1.2.1 y.1.2.2.1 y.1.2.2.2 y.2 s.1 s.2.1 s.2.2.1 s.2.2.2) m
/-- What is read where a loop is entered. -/
noncomputable def decL (L : List Wd) (us : List Value) (bs : List Blk) : Option (Bool × YL × SI) := match bs with
  | [.row false 1 cs, _, .row false 1 [.string s, .string t, .int .i64 n, .slice none 0 0]] => match rdPS cs with
    | some q => some (tst (us = encL (s, t, n, .nil) ∧ bs = blkL L (s, t, n, .nil) (q.i, q.d, q.e, q.a)), (s, t, n, .nil), (q.i, q.d, q.e, q.a))
    | none => none
  | _ => none
theorem decL_ok {L : List Wd} {us : List Value} {bs : List Blk} {y : YL} {s : SI} (h : decL L us bs = some (true, y, s)) : us = encL y ∧ bs = blkL L y s := by
  unfold decL at h
  split at h
  · split at h
    · simp only [Option.some.injEq, Prod.mk.injEq] at h
      obtain ⟨ht, rfl, rfl⟩ := h
      exact of_tst ht
    · cases h
  · cases h
noncomputable def decM (g : FuncId) (L : List Wd) (us : List Value) (bs : List Blk) : Option (Bool × NL × SI) := match bs with
  | [.row false 1 cs] => match rdPS cs with
    | some q => some (tst (us = encM g .nil ∧ bs = blkM L .nil (q.i, q.d, q.e, q.a)), .nil, (q.i, q.d, q.e, q.a))
    | none => none
  | _ => none
theorem decM_ok {g : FuncId} {L : List Wd} {us : List Value} {bs : List Blk} {y : NL} {s : SI} (h : decM g L us bs = some (true, y, s)) : us = encM g y ∧ bs = blkM L y s := by
  unfold decM at h
  split at h
  · split at h
    · simp only [Option.some.injEq, Prod.mk.injEq] at h
      obtain ⟨ht, rfl, rfl⟩ := h
      exact of_tst ht
    · cases h
  · cases h
noncomputable def decC (L : List Wd) (us : List Value) (bs : List Blk) : Option (Bool × YL × SI) := match bs with
  | [.row false 1 cs, _, .row false 1 [.string s, .string t, .int .i64 n, .slice none 0 0]] => match rdPS cs with
    | some q => some (tst (us = encC (s, t, n, .nil) ∧ bs = blkC L (s, t, n, .nil) (q.i, q.d, q.e, q.a)), (s, t, n, .nil), (q.i, q.d, q.e, q.a))
    | none => none
  | _ => none
theorem decC_ok {L : List Wd} {us : List Value} {bs : List Blk} {y : YL} {s : SI} (h : decC L us bs = some (true, y, s)) : us = encC y ∧ bs = blkC L y s := by
  unfold decC at h
  split at h
  · split at h
    · simp only [Option.some.injEq, Prod.mk.injEq] at h
      obtain ⟨ht, rfl, rfl⟩ := h
      exact of_tst ht
    · cases h
  · cases h
noncomputable def decR (m : Int) (g : FuncId) (c : List ByteArray) (L : List Wd) (us : List Value) (bs : List Blk) : Option (Bool × YR × SI) := match bs with
  | [.row false 1 cs, _, .row false 1 [.string s, .string t, .int .i64 n, .iface _ (.tuple ⟨_ :: _ :: kc⟩)]] => match rdPS cs with
    | some q => some (tst (us = encR m g c ((s, t, n, unN kc), 0) ∧ bs = blkR L ((s, t, n, unN kc), 0) (q.i, q.d, q.e, q.a)), ((s, t, n, unN kc), 0), (q.i, q.d, q.e, q.a))
    | none => none
  | _ => none
theorem decR_ok {m : Int} {g : FuncId} {c : List ByteArray} {L : List Wd} {us : List Value} {bs : List Blk} {y : YR} {s : SI} (h : decR m g c L us bs = some (true, y, s)) : us = encR m g c y ∧ bs = blkR L y s := by
  unfold decR at h
  split at h
  · split at h
    · simp only [Option.some.injEq, Prod.mk.injEq] at h
      obtain ⟨ht, rfl, rfl⟩ := h
      exact of_tst ht
    · cases h
  · cases h
noncomputable def decP (L : List Wd) (us : List Value) (bs : List Blk) : Option (Bool × YL × SI) := match bs with
  | [.row false 1 cs, _, .row false 1 [.string s, .string t, .int .i64 n, .iface _ (.tuple ⟨_ :: _ :: kc⟩)]] => match rdPS cs with
    | some q => some (tst (us = encP (s, t, n, unN kc) ∧ bs = blkP L (s, t, n, unN kc) (q.i, q.d, q.e, q.a)), (s, t, n, unN kc), (q.i, q.d, q.e, q.a))
    | none => none
  | _ => none
theorem decP_ok {L : List Wd} {us : List Value} {bs : List Blk} {y : YL} {s : SI} (h : decP L us bs = some (true, y, s)) : us = encP y ∧ bs = blkP L y s := by
  unfold decP at h
  split at h
  · split at h
    · simp only [Option.some.injEq, Prod.mk.injEq] at h
      obtain ⟨ht, rfl, rfl⟩ := h
      exact of_tst ht
    · cases h
  · cases h
theorem noL_ok {hE : AH} : LoopsOK Tryd.prog (glV []) hE noLO [] := fun c hc => by cases hc
theorem ro1 (cs : List Value) : ∀ b ∈ [Blk.row false 1 cs], b.ro = false := fun b hb => by rw [List.mem_singleton.1 hb]; rfl
theorem len1 (cs : List Value) : 0 < [Blk.row false 1 cs].length := Nat.zero_lt_one
/-- The loops, told. -/
noncomputable abbrev lkL {R : Type} (nb : Nat) (L : List Wd) (r n : Nat) (D : List (FuncId × List Value)) (q : Nat) (F : YL → SI → Option (YL × SI)) : LoopK R := lkY 1 r [0, 2, 3] [0, 1, nb] (.cell nb 3) false [true, false, false, true] 1 n D (.exit q) encL (blkX L) (decL L) F noLK
noncomputable abbrev loL (nb : Nat) (L : List Wd) (r n : Nat) (D : List (FuncId × List Value)) (q : Nat) (F : YL → SI → Option (YL × SI)) : LoopA := loY 1 r [0, 2, 3] [0, 1, nb] (.cell nb 3) false [true, false, false, true] 1 n D (.exit q) encL (blkX L) (decL L) F noLO
theorem loL_ok {nb : Nat} {L : List Wd} {p : PF} (hp : Pok L p) {fn : Func} {r q : Nat} {D : List (FuncId × List Value)} (hD : dsP D) {st : St9} (e1 : loopsOf (bodyOf fn) = [loopN fn 0]) (e2 : loopsOf (loopN fn 0) = [])
    (hA : ∀ s t n i d e a, RLa p L fn 0 D s t n i d e a = ofL (.exit q) L (st s t n .nil i d e a)) (hB : ∀ s t n ks i d e a, RLb p L fn 0 D s t n ks i d e a = ofL (.exit q) L (st s t n ks i d e a)) (m : Nat) (csE : List Value) :
    LoopsOK Tryd.prog (glV lq0) (mkHV lq0 [.row false 1 csE]) (loL nb L r fn.ntmps D q (lpL st m)) (loopsOf (bodyOf fn)) := by
  refine loY_ok (bsE := [.row false 1 csE]) (enc := encL) (blk := blkL L) (ts := [0, 2, 3]) (by decide) hD (ro1 csE) (len1 csE) (okL L) (obL L) (fun _ _ _ _ => decL_ok) ?_ noLO_ok
  intro c hc _ y s y' s' h
  rw [e1, List.mem_singleton] at hc
  subst hc
  refine loopY (d := 1) (b := 3) (ks := .cell 2 3) (z := false) hmix (pA_ok hp) (pK_ok L p) noLK_ok (by rw [e2]; exact noL_ok) (by decide) hD (by simp) encL encL (blkL L) (blkX L) (ro1 csE) (len1 csE) (okL L) (obL L) (okLX L) (obLX L) _ ?_ h
  rintro ⟨s, t, n, k⟩ ⟨i, d, e, a⟩ ⟨b, y1, s1⟩ hs
  dsimp only at hs
  cases k with
  | nil =>
    have h1 := hA s t n i d e a
    rw [hs] at h1
    exact h1
  | cons s' t' n' k' r' =>
    have h1 := hB s t n (.cons s' t' n' k' r') i d e a
    rw [hs] at h1
    exact h1
noncomputable abbrev lkM {R : Type} (g : FuncId) (L : List Wd) (F : NL → SI → Option (NL × SI)) : LoopK R := lkY 1 2 [0, 1, 4, 5] [0] (.tmp 5) false [true, true] 1 33 [] (.exit 0) (encMX g) (blkMX L) (decM g L) F noLK
noncomputable abbrev loM (g : FuncId) (L : List Wd) (F : NL → SI → Option (NL × SI)) : LoopA := loY 1 2 [0, 1, 4, 5] [0] (.tmp 5) false [true, true] 1 33 [] (.exit 0) (encMX g) (blkMX L) (decM g L) F noLO
theorem l47 : loopsOf (bodyOf Tryd.f47) = [loopN Tryd.f47 0] ∧ loopsOf (loopN Tryd.f47 0) = [] := ⟨by kernel_rfl, by kernel_rfl⟩
theorem loM_ok {L : List Wd} {p : PF} (hp : Pok L p) {g : FuncId} {st : NL → Int → Int → Int → Int → Option (Bool × NL × SI)}
    (hA : ∀ i d e a, RMa p L g i d e a = ofE (enM g L) (st .nil i d e a)) (hB : ∀ ks i d e a, RMb p L g ks i d e a = ofE (enM g L) (st ks i d e a)) (m : Nat) (csE : List Value) :
    LoopsOK Tryd.prog (glV lq0) (mkHV lq0 [.row false 1 csE]) (loM g L (lpM st m)) (loopsOf (bodyOf Tryd.f47)) := by
  refine loY_ok (bsE := [.row false 1 csE]) (enc := encM g) (blk := blkM L) (ts := [0, 1, 4, 5]) (by decide) dsP_nil (ro1 csE) (len1 csE) (okM g L) (obM L) (fun _ _ _ _ => decM_ok) ?_ noLO_ok
  intro c hc _ y s y' s' h
  rw [l47.1, List.mem_singleton] at hc
  subst hc
  refine loopY (fn := Tryd.f47) (d := 1) (b := 1) (k := 0) (ks := .tmp 5) (z := false) hmix (pA_ok hp) (pK_ok L p) noLK_ok (by rw [l47.2]; exact noL_ok) (by decide) dsP_nil (by simp) (encM g) (encMX g) (blkM L) (blkMX L) (ro1 csE) (len1 csE) (okM g L) (obM L) (okMX g L) (obMX L) _ ?_ h
  rintro k ⟨i, d, e, a⟩ ⟨b, y1, s1⟩ hs
  dsimp only at hs
  cases k with
  | nil =>
    have h1 := hA i d e a
    rw [hs] at h1
    exact h1
  | cons s' t' n' k' r' =>
    have h1 := hB (.cons s' t' n' k' r') i d e a
    rw [hs] at h1
    exact h1
noncomputable abbrev lkC' {R : Type} (L : List Wd) (F : YL → SI → Option (YL × SI)) : LoopK R := lkY 3 2 [0, 1, 4, 5] [0, 1, 2] (.tmp 5) false [true, false, false, true] 1 33 [] (.exit 0) encCX (blkCX L) (decC L) F noLK
noncomputable abbrev loC' (L : List Wd) (F : YL → SI → Option (YL × SI)) : LoopA := loY 3 2 [0, 1, 4, 5] [0, 1, 2] (.tmp 5) false [true, false, false, true] 1 33 [] (.exit 0) encCX (blkCX L) (decC L) F noLO
theorem loC'_ok {L : List Wd} {p : PF} (hp : Pok L p) {st : St9} (hA : ∀ s t n i d e a, RCa p L s t n i d e a = ofE (enC L) (st s t n .nil i d e a)) (hB : ∀ s t n ks i d e a, RCb p L s t n ks i d e a = ofE (enC L) (st s t n ks i d e a)) (m : Nat) {bs : List Blk} (hlen : bs.length = 3) (hro : ∀ b ∈ bs, b.ro = false) :
    LoopsOK Tryd.prog (glV lq0) (mkHV lq0 bs) (loC' L (lpL st m)) (loopsOf (bodyOf Tryd.f47)) := by
  have key := loY_ok (P := Tryd.prog) (r := 2) (ts := [0, 1, 4, 5]) (base := [0, 1, 2]) (ks := .tmp 5) (z := false) (gs := [true, false, false, true]) (d := 1) (n := 33) (D := []) (x0 := .exit 0) (encX := encCX) (blkX := blkCX L) (dec := decC L) (F := lpL st m) (LO := noLO) (cl := loopsOf (bodyOf Tryd.f47)) (bsE := bs) (enc := encC) (blk := blkC L) (by decide) dsP_nil hro (by omega) (by rw [hlen]; exact okC L) (by rw [hlen]; exact obC L) (fun _ _ _ _ => decC_ok)
  rw [hlen] at key
  refine key ?_ noLO_ok
  intro c hc _ y s y' s' h
  rw [l47.1, List.mem_singleton] at hc
  subst hc
  refine loopY (fn := Tryd.f47) (bsE := bs) (d := 1) (b := 3) (k := 0) (ks := .tmp 5) (z := false) hmix (pB_ok hp [48] 0) (pL_ok L p [48] 0) noLK_ok (by rw [l47.2]; exact noL_ok) (by decide) dsP_nil (by simp) encC encCX (blkC L) (blkCX L) hro (by omega) (by rw [hlen]; exact okC L) (by rw [hlen]; exact obC L) (by rw [hlen]; exact okCX L) (by rw [hlen]; exact obCX L) _ ?_ h
  rw [hlen]
  rintro ⟨s, t, n, k⟩ ⟨i, d, e, a⟩ ⟨b, y1, s1⟩ hs
  dsimp only at hs
  cases k with
  | nil =>
    have h1 := hA s t n i d e a
    rw [hs] at h1
    exact h1
  | cons s' t' n' k' r' =>
    have h1 := hB s t n (.cons s' t' n' k' r') i d e a
    rw [hs] at h1
    exact h1
noncomputable abbrev lkR {R : Type} (m : Int) (g : FuncId) (c : List ByteArray) (L : List Wd) (F : YR → SI → Option (YR × SI)) : LoopK R := lkY 1 3 [0, 1, 2, 3, 8, 9, 10] [0, 1, 2] .no true [true, false, false] 1 36 [] (.exit 0) (encR m g c) (blkR L) (decR m g c L) F noLK
noncomputable abbrev loR (m : Int) (g : FuncId) (c : List ByteArray) (L : List Wd) (F : YR → SI → Option (YR × SI)) : LoopA := loY 1 3 [0, 1, 2, 3, 8, 9, 10] [0, 1, 2] .no true [true, false, false] 1 36 [] (.exit 0) (encR m g c) (blkR L) (decR m g c L) F noLO
theorem l69 : loopsOf (bodyOf Tryd.f69) = [loopN Tryd.f69 0] ∧ loopsOf (loopN Tryd.f69 0) = [] := ⟨by kernel_rfl, by kernel_rfl⟩
theorem loR_ok {L : List Wd} {p : PF} (hp : Pok L p) {m : Int} {g : FuncId} {c : List ByteArray} {st : ByteArray → ByteArray → Int → NL → Int → Int → Int → Int → Int → Option (Bool × YR × SI)}
    (hA : ∀ s t n ks j i d e a, RRv p L m g c s t n ks j i d e a = ofE (enR m g c L) (st s t n ks j i d e a)) (f : Nat) (csE : List Value) :
    LoopsOK Tryd.prog (glV lq0) (mkHV lq0 [.row false 1 csE]) (loR m g c L (lpR st f)) (loopsOf (bodyOf Tryd.f69)) := by
  refine loY_ok (bsE := [.row false 1 csE]) (enc := encR m g c) (blk := blkR L) (ts := [0, 1, 2, 3, 8, 9, 10]) (by decide) dsP_nil (ro1 csE) (len1 csE) (okR m g c L) (obR L) (fun _ _ _ _ => decR_ok) ?_ noLO_ok
  intro c' hc _ y s y' s' h
  rw [l69.1, List.mem_singleton] at hc
  subst hc
  refine loopY (fn := Tryd.f69) (d := 1) (b := 3) (k := 0) (ks := .no) (z := true) hmix (pA_ok hp) (pK_ok L p) noLK_ok (by rw [l69.2]; exact noL_ok) (by decide) dsP_nil (by simp) (encR m g c) (encR m g c) (blkR L) (blkR L) (ro1 csE) (len1 csE) (okR m g c L) (obR L) (okR m g c L) (obR L) _ ?_ h
  rintro ⟨⟨s, t, n, k⟩, j⟩ ⟨i, d, e, a⟩ ⟨b, y1, s1⟩ hs
  dsimp only at hs
  have h1 := hA s t n k j i d e a
  rw [hs] at h1
  refine h1.trans ?_
  cases b <;> rfl
noncomputable abbrev lkP {R : Type} (L : List Wd) (F : YL → SI → Option (YL × SI)) : LoopK R := lkY 1 2 [0, 2, 3] [0, 1, 2] .no true [true, false, false] 1 46 [] .ret encP (blkPX L) (decP L) F noLK
noncomputable abbrev loP (L : List Wd) (F : YL → SI → Option (YL × SI)) : LoopA := loY 1 2 [0, 2, 3] [0, 1, 2] .no true [true, false, false] 1 46 [] .ret encP (blkPX L) (decP L) F noLO
theorem l87 : loopsOf (bodyOf Tryd.f87) = [loopN Tryd.f87 0] ∧ loopsOf (loopN Tryd.f87 0) = [] := ⟨by kernel_rfl, by kernel_rfl⟩
theorem loP_ok {L : List Wd} {p : PF} (hp : Pok L p) {st : St9} (hA : ∀ s t n ks i d e a, RPv p L s t n ks i d e a = ofE (enP L) (st s t n ks i d e a)) (m : Nat) (csE : List Value) :
    LoopsOK Tryd.prog (glV lq0) (mkHV lq0 [.row false 1 csE]) (loP L (lpL st m)) (loopsOf (bodyOf Tryd.f87)) := by
  refine loY_ok (bsE := [.row false 1 csE]) (enc := encP) (blk := blkP L) (ts := [0, 2, 3]) (by decide) dsP_nil (ro1 csE) (len1 csE) (okP L) (obP L) (fun _ _ _ _ => decP_ok) ?_ noLO_ok
  intro c hc _ y s y' s' h
  rw [l87.1, List.mem_singleton] at hc
  subst hc
  refine loopY (fn := Tryd.f87) (d := 1) (b := 3) (k := 0) (ks := .no) (z := true) hmix (pA_ok hp) (pK_ok L p) noLK_ok (by rw [l87.2]; exact noL_ok) (by decide) dsP_nil (by simp) encP encP (blkP L) (blkPX L) (ro1 csE) (len1 csE) (okP L) (obP L) (okPX L) (obPX L) _ ?_ h
  rintro ⟨s, t, n, k⟩ ⟨i, d, e, a⟩ ⟨b, y1, s1⟩ hs
  dsimp only at hs
  have h1 := hA s t n k i d e a
  rw [hs] at h1
  exact h1
noncomputable def lp13 (p : PF) (L : List Wd) (m : Nat) : YL → SI → Option (YL × SI) := lpL (st13 p L) m
noncomputable def lp24 (p : PF) (L : List Wd) (m : Nat) : YL → SI → Option (YL × SI) := lpL (st24 p L) m
noncomputable def lp50 (p : PF) (L : List Wd) (m : Nat) : YL → SI → Option (YL × SI) := lpL (st50 p L) m
noncomputable def lp60 (p : PF) (L : List Wd) (m : Nat) : YL → SI → Option (YL × SI) := lpL (st60 p L) m
noncomputable def lp47c (p : PF) (L : List Wd) (m : Nat) : YL → SI → Option (YL × SI) := lpL (st47c p L) m
noncomputable def lp87 (p : PF) (L : List Wd) (m : Nat) : YL → SI → Option (YL × SI) := lpL (stP87 p L) m
noncomputable def lp47 (p : PF) (L : List Wd) (g : FuncId) (m : Nat) : NL → SI → Option (NL × SI) := match g with
  | 46 => lpM (st47g46 p L) m
  | 89 => lpM (st47g89 p L) m
  | _ => fun _ _ => none
noncomputable def lp69 (p : PF) (L : List Wd) (v : Nat) (mo : Int) (m : Nat) : YR → SI → Option (YR × SI) := match v with
  | 0 => lpR (stR0 p L mo) m
  | 1 => lpR (stR1 p L mo) m
  | 2 => lpR (stR2 p L mo) m
  | 3 => lpR (stR3 p L mo) m
  | 4 => lpR (stR4 p L mo) m
  | _ => fun _ _ => none
noncomputable abbrev RYF (p : PF) (L : List Wd) (LK : LoopK (Value × List Blk)) (fn : Func) (x : PArg) (i d e a : Int) : Option (Value × List Blk) := runZ Tryd.prog lq0 (bP L i d e a) (pA L p) (pK L p) LK 1 [true] fn (p0 :: x.enc)
noncomputable abbrev pCA (p : PF) (L : List Wd) (m : Nat) : CallA := mixA [47] (lxA Tryd.prog 47 3 (pB L [48] 0 p) (loC' L (lp47c p L m))) (pA L p)
noncomputable abbrev pCK {R : Type} (p : PF) (L : List Wd) (m : Nat) : CK R := mixK [47] (lxK Tryd.prog 47 3 (pB L [48] 0 p) (pL L [48] 0 p) (lkC' L (lp47c p L m))) (pK L p)
noncomputable abbrev RCF (p : PF) (L : List Wd) (m : Nat) (fn : Func) (x : PArg) (i d e a : Int) : Option (Value × List Blk) := runZ Tryd.prog lq0 (bP L i d e a) (pCA p L m) (pCK p L m) noLK 1 [true] fn (p0 :: x.enc)
noncomputable abbrev RF13 (p : PF) (L : List Wd) (m : Nat) (i d e a : Int) := RYF p L (lkL 2 L 2 25 [] 0 (lp13 p L m)) Tryd.f13 .u i d e a
noncomputable abbrev RF24 (p : PF) (L : List Wd) (m : Nat) (i d e a : Int) := RYF p L (lkL 2 L 6 64 [] 1 (lp24 p L m)) Tryd.f24 .u i d e a
noncomputable abbrev RF50 (p : PF) (L : List Wd) (m : Nat) (i d e a : Int) := RYF p L (lkL 2 L 5 32 [(59, [p0])] 0 (lp50 p L m)) Tryd.f50 .u i d e a
noncomputable abbrev RF60 (p : PF) (L : List Wd) (m : Nat) (i d e a : Int) := RYF p L (lkL 3 L 37 Tryd.f60.ntmps [] 1 (lp60 p L m)) Tryd.f60 .u i d e a
noncomputable abbrev RF47 (p : PF) (L : List Wd) (m : Nat) (g : FuncId) (i d e a : Int) := RYF p L (lkM g L (lp47 p L g m)) Tryd.f47 (.f g) i d e a
noncomputable abbrev RF69 (p : PF) (L : List Wd) (m : Nat) (mo : Int) (v : Nat) (g : FuncId) (c : List ByteArray) (i d e a : Int) := RYF p L (lkR mo g c L (lp69 p L v mo m)) Tryd.f69 (.r mo g c) i d e a
noncomputable abbrev RF87 (p : PF) (L : List Wd) (m : Nat) (i d e a : Int) := RYF p L (lkP L (lp87 p L m)) Tryd.f87 .u i d e a
noncomputable abbrev RF39 (p : PF) (L : List Wd) (m : Nat) (i d e a : Int) := RCF p L m Tryd.f39 .u i d e a
theorem txts_str (c : List ByteArray) : txts (c.map .string) = c.map fun x => x.data.toList := by
  induction c with
  | nil => rfl
  | cons x r ih => show _ :: txts (r.map .string) = _; rw [ih]; rfl
theorem map_st (c : List ByteArray) : c.map Value.string = (c.map fun x => x.data.toList).map st := by
  rw [List.map_map]; rfl
theorem tst_strs (c : List ByteArray) : tst (GVal (gslV c.length 0 false (c.map .string))) = true := tst_of (gv_strs _ c)
theorem tst_c37 (c : List ByteArray) : tst (0 = 0 ∧ false = false ∧ c.length ≤ 4294967296 ∧ ∃ L : List (List UInt8), L.length = c.length ∧ c.map Value.string = L.map st) = Nat.ble c.length 4294967296 := by
  cases h : Nat.ble c.length 4294967296 with
  | true => exact tst_of ⟨rfl, rfl, Nat.le_of_ble_eq_true h, _, by rw [List.length_map], map_st c⟩
  | false =>
    cases h2 : tst (0 = 0 ∧ false = false ∧ c.length ≤ 4294967296 ∧ ∃ L : List (List UInt8), L.length = c.length ∧ c.map Value.string = L.map st) with
    | false => rfl
    | true =>
      have := Nat.ble_eq_true_of_le (of_tst h2).2.2.1
      rw [h] at this; cases this
theorem tst_c37T (c : List ByteArray) : tst (True ∧ True ∧ c.length ≤ 4294967296 ∧ ∃ L : List (List UInt8), L.length = c.length ∧ c.map Value.string = L.map st) = Nat.ble c.length 4294967296 := by
  rw [← tst_c37]
  simp only [true_and]
/-- Is a word among these? -/
def amongB (s : ByteArray) (c : List ByteArray) : Bool := hasT s.data.toList (c.map fun x => x.data.toList)
theorem among_txts (s : ByteArray) (c : List ByteArray) : hasT s.1.1 (txts (c.map .string)) = amongB s c := by rw [txts_str]; rfl
/-- A function's contract out of its run. -/
theorem conP1 {L : List Wd} {call : CallA} (hc : CallOK Tryd.prog (glV lq0) call) {callK : CK (Value × List Blk)} (hK : CKok call callK) {LO : LoopA} {LK : LoopK (Value × List Blk)} (hL : LKok LO LK) {k : FuncId} {fn : Func} {c : Code} {x : PArg} {i d e a : Int} {r : PR} {o : Option PR}
    (hfn : Tryd.prog.funcs[k]? = some fn) (hb : fn.body = some c) (hname : (fn.name == "runtime.NumGoroutine") = false) (hLO : LoopsOK Tryd.prog (glV lq0) (mkHV lq0 (bP L i d e a)) LO (loopsOf (bodyOf fn)))
    (ho : o = some r) (hr : runZ Tryd.prog lq0 (bP L i d e a) call callK LK 1 [true] fn (p0 :: x.enc) = ofP L (sh k) o) : ConM Tryd.prog lq0 [.row false 1 (csP L i d e a)] k (p0 :: x.enc) ((sh k).mk r) [.row false 1 (csP L r.i r.d r.e r.a)] := by
  rw [ofP_some ho] at hr
  refine conZ lq0_g (bP_ro L i d e a) hmix hc hK hL hfn hb hname hLO hr (PSh.mk_g _ _) ?_
  intro z cs hm x hx
  rw [List.mem_singleton] at hm
  cases hm
  exact csP_g L _ _ _ _ x hx
theorem conP1M {L : List Wd} {p : PF} (hp : Pok L p) {k : FuncId} {fn : Func} {c : Code} {x : PArg} {i d e a : Int} {r : PR} {o : Option PR}
    (hfn : Tryd.prog.funcs[k]? = some fn) (hb : fn.body = some c) (hname : (fn.name == "runtime.NumGoroutine") = false) (ho : o = some r) (hr : RM p L fn x i d e a = ofP L (sh k) o) : ConM Tryd.prog lq0 [.row false 1 (csP L i d e a)] k (p0 :: x.enc) ((sh k).mk r) [.row false 1 (csP L r.i r.d r.e r.a)] := by
  rw [ofP_some ho] at hr
  refine conM lq0_g (bP_ro L i d e a) hmix (pA_ok hp) (pK_ok L p) noLK_ok hfn hb hname noLO_ok hr (PSh.mk_g _ _) ?_
  intro z cs hm x hx
  rw [List.mem_singleton] at hm
  cases hm
  exact csP_g L _ _ _ _ x hx
theorem exU0 : exF (.tuple ⟨[]⟩) = .tuple ⟨[]⟩ := rfl
theorem tst_n3y (s t : ByteArray) (n : Int) (k : NL) (s' t' : ByteArray) (n' : Int) (k' : NL) (s'' t'' : ByteArray) (n'' : Int) : tst (∀ (x : Value), x ∈ [.string s, .string t, .int .i64 n, kv k, .string s', .string t', .int .i64 n', kv k', .string s'', .string t'', .int .i64 n'', .slice none 0 0] → GVal x) = true := tst_of fun x hx => by
  by_cases h : x = .slice none 0 0
  · rw [h]; exact .plain _ rfl
  · refine flatN_g (.cons s t n k (.cons s' t' n' k' (.cons s'' t'' n'' .nil .nil))) x ?_
    show x ∈ [.string s, .string t, .int .i64 n, kv k, .string s', .string t', .int .i64 n', kv k', .string s'', .string t'', .int .i64 n'', gslV 0 0 false []]
    simp only [List.mem_cons, List.not_mem_nil, or_false, h] at hx ⊢
    rcases hx with h | h | h | h | h | h | h | h | h | h | h <;> simp [h]
theorem lo39 {p : PF} {L : List Wd} (hp : Pok L p) (m : Nat) : ∀ (fn : Func) (bs : List Blk), Tryd.prog.funcs[47]? = some fn → bs.length = 3 → (∀ b ∈ bs, b.ro = false) → LoopsOK Tryd.prog (glV []) (mkHV [] bs) (loC' L (lp47c p L m)) (loopsOf (bodyOf fn)) := by
  intro fn bs hfn hlen hro
  have e : fn = Tryd.f47 := by
    have := Tryd.func47
    rw [hfn] at this
    exact Option.some.inj this
  subst e
  exact loC'_ok hp (st := st47c p L) (rA47c p L) (rB47c p L) m hlen hro
end Go.Proofs.YtachednafdmmaaaDoor.AI
