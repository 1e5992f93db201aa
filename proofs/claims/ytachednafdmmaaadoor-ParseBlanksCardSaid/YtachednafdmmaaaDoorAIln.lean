/- The abstract interpreter: contracts of functions in worlds that hold rows (package-level variables that nobody writes); runs, laws and loops in such worlds. -/
import Derived.Test.YtachednafdmmaaaDoorAIlk
namespace Go.Proofs.YtachednafdmmaaaDoor.AI
open Go Go.RowKit
set_option linter.unusedVariables false
set_option linter.unusedSimpArgs false

variable {P : Program} {gl : Nat → Option Nat}

/-- Variables with their rows. -/
abbrev VTabs := List (Nat × List Value)
def glW : Nat → VTabs → Nat → Option Nat
  | _, [], _ => none
  | i, x :: r, g => bif Nat.beq x.1 g then some i else glW (i + 1) r g
def glV (l : VTabs) : Nat → Option Nat := glW 0 l
def hW : Nat → VTabs → Tr Blk → Tr Blk
  | _, [], t => t
  | i, x :: r, t => hW (i + 1) r (t.set i (some (.row true 7777 x.2)))
def hV (l : VTabs) : AH := ⟨hW 0 l .nil, l.length⟩
noncomputable def muV (l : VTabs) (w : World) (S : Nat → Prop) : Mu := ⟨fun i => match l[i]? with
  | some x => ⟨x.1, 0, 0⟩
  | none => ⟨0, 0, 0⟩, (muS w S).fr⟩
/-- A world holds a row; S: the blocks that may be shown. -/
def RowS (w : World) (S : Nat → Prop) (x : Nat × List Value) : Prop := ∃ C e fz, w.heap[x.1]? = some (.cells C e fz) ∧ C.size = x.2.length ∧ LRel (muS w S) 0 x.2 C.toList
/-- A row that may be held. -/
def GTab (l : VTabs) : Prop := ∀ x ∈ l, ∀ v ∈ x.2, GVal v

theorem hW_get : ∀ (l : VTabs) (i : Nat) (t : Tr Blk) (j : Nat), (hW i l t).get j = if i ≤ j then (match l[j - i]? with | some x => some (.row true 7777 x.2) | none => t.get j) else t.get j := by
  intro l
  induction l with
  | nil => intro i t j; simp [hW]
  | cons x l ih =>
    intro i t j
    rw [hW, ih]
    by_cases h : i + 1 ≤ j
    · have h2 : i ≤ j := by omega
      have h3 : j - i = (j - (i + 1)) + 1 := by omega
      rw [if_pos h, if_pos h2, h3, List.getElem?_cons_succ]
      cases l[j - (i + 1)]? with
      | some y => rfl
      | none => exact Tr.get_set_ne _ _ (by omega)
    · rw [if_neg h]
      by_cases h2 : i = j
      · subst h2
        simp [Tr.get_set_same]
      · rw [if_neg (by omega), Tr.get_set_ne _ _ (by omega)]
theorem hV_get {l : VTabs} {i : Nat} {b : Blk} (h : (hV l).get i = some b) : ∃ x, l[i]? = some x ∧ b = .row true 7777 x.2 := by
  simp only [hV, AH.get, hW_get, Nat.zero_le, if_true, Nat.sub_zero] at h
  split at h
  · rename_i x hx; exact ⟨x, hx, (Option.some.inj h).symm⟩
  · simp [Tr.get_nil] at h
theorem hV_ro {l : VTabs} {i : Nat} {b : Blk} (h : (hV l).get i = some b) : b.ro = true ∧ i < l.length := by
  obtain ⟨x, hx, rfl⟩ := hV_get h
  exact ⟨rfl, (List.getElem?_eq_some_iff.1 hx).1⟩
theorem glW_some : ∀ {l : VTabs} {i g j : Nat}, glW i l g = some j → i ≤ j ∧ ∃ x, l[j - i]? = some x ∧ x.1 = g := by
  intro l
  induction l with
  | nil => intro i g j h; cases h
  | cons x l ih =>
    intro i g j h
    unfold glW at h
    cases hb : Nat.beq x.1 g with
    | true =>
      rw [hb] at h
      obtain rfl := Option.some.inj h
      exact ⟨Nat.le_refl _, x, by simp, Nat.eq_of_beq_eq_true hb⟩
    | false =>
      rw [hb] at h
      obtain ⟨h1, y, h2, h3⟩ := ih h
      refine ⟨by omega, y, ?_, h3⟩
      rw [show j - i = (j - (i + 1)) + 1 by omega, List.getElem?_cons_succ]
      exact h2

theorem HRel.rowsV {l : VTabs} {w : World} {S : Nat → Prop} {μ : Mu} (hμ : μ = muV l w S) (hw : ∀ x ∈ l, RowS w S x) : HRel (glV l) μ (hV l) w := by
  subst hμ
  refine ⟨⟨?_, ?_, ?_, ?_⟩, fun B C hB => ⟨(muS_some.1 hB).2, fun ⟨i, b, h, hr, _⟩ => by obtain ⟨x, _, rfl⟩ := hV_get h; cases hr⟩⟩
  · intro i b h
    exact (hV_ro h).2
  · intro i b h
    obtain ⟨x, hx, rfl⟩ := hV_get h
    obtain ⟨C, e, fz, h1, h2, h3⟩ := hw x (List.mem_of_getElem? hx)
    have hm : (muV l w S).loc i = ⟨x.1, 0, 0⟩ := by simp only [muV, hx]
    rw [hm]
    refine ⟨C, e, fz, h1, ?_, ?_, fun h => (by cases h), fun _ _ => ?_⟩
    · show 0 + x.2.length + 0 * 7777 ≤ C.size
      omega
    · intro j v hv
      have hj : j < C.size := by rw [h2]; exact (List.getElem?_eq_some_iff.1 hv).1
      have hc : C.toList[j]? = some C[j] := by rw [Array.getElem?_toList, Array.getElem?_eq_getElem hj]
      refine ⟨C[j], ?_, VRel.closed (μ := muS w S) (μ' := muV l w S) (fun B C hB => hB) (h3.2 j v _ hv hc)⟩
      show C[0 + j]? = some C[j]
      rw [Nat.zero_add, Array.getElem?_eq_getElem hj]
    · show C.size = 0 + x.2.length
      omega
  · intro i j bi bj h _ _ hr
    obtain ⟨x, _, rfl⟩ := hV_get h
    cases hr
  · intro g i h
    obtain ⟨_, x, hx, hg⟩ := glW_some h
    rw [Nat.sub_zero] at hx
    have hm : (muV l w S).loc i = ⟨x.1, 0, 0⟩ := by simp only [muV, hx]
    exact ⟨(List.getElem?_eq_some_iff.1 hx).1, by rw [hm]; exact hg, by rw [hm]⟩

/-- Are the rows where they are looked for? -/
noncomputable def rowsV (gl : Nat → Option Nat) (h : AH) : VTabs → Bool
  | [] => true
  | x :: l => match gl x.1 with
    | some i => (match h.get i with
      | some (.row true 7777 cs) => tst (cs = x.2) && rowsV gl h l
      | _ => false)
    | none => false
theorem rowsV_in {gl : Nat → Option Nat} {h : AH} : ∀ {l : VTabs}, rowsV gl h l = true → ∀ x ∈ l, ∃ i, gl x.1 = some i ∧ h.get i = some (.row true 7777 x.2) := by
  intro l
  induction l with
  | nil => intro _ x hx; cases hx
  | cons y l ih =>
    intro hb x hx
    unfold rowsV at hb
    split at hb
    · rename_i i hi
      split at hb
      · rename_i cs hr
        rw [Bool.and_eq_true] at hb
        obtain ⟨h1, h2⟩ := hb
        rcases List.mem_cons.1 hx with rfl | hx
        · exact ⟨i, hi, by rw [hr, of_tst h1]⟩
        · exact ih h2 x hx
      · cases hb
    · cases hb
theorem rows_of {l : VTabs} (hg : GTab l) {μ : Mu} {h : AH} {w : World} (hh : HRel gl μ h w) (ht : rowsV gl h l = true) {S : Nat → Prop} (hS : ∀ B C, μ.fr B = some C → S B) : ∀ x ∈ l, RowS w S x := by
  intro x hx
  obtain ⟨i, h1, h2⟩ := rowsV_in ht x hx
  obtain ⟨_, hB, hO⟩ := hh.glob x.1 i h1
  obtain ⟨C, e, fz, hrow⟩ := hh.blk i _ h2
  have hat := hrow.at_
  rw [hB] at hat
  have hex := hrow.ex rfl rfl
  rw [hO, Nat.zero_add] at hex
  refine ⟨C, e, fz, hat, hex, by rw [Array.length_toList]; exact hex.symm, fun j v c hv hc => ?_⟩
  obtain ⟨c', q1, q2⟩ := hrow.cells j v hv
  rw [hO, Nat.zero_add] at q1
  rw [Array.getElem?_toList, q1] at hc
  cases hc
  exact (hg x hx v (List.mem_of_getElem? hv)).vrel (fun B C hB => muS_some.2 ⟨hS B C hB, (hh.fz B C hB).1⟩) q2

/-- A function's contract, in worlds that hold rows. -/
def ConQ (P : Program) (l : VTabs) (g : FuncId) (ar : List Value) (v : Value) : Prop :=
  ∀ (w : World) (S : Nat → Prop) (args : Array Value), (∀ x ∈ l, RowS w S x) → LRel (muS w S) 0 ar args.toList →
    Calls P g args w fun e w' => ∃ c, e = .returned c ∧ Below w.heap.size w w' ∧ VRel (muS w' fun B => S B ∨ w.heap.size ≤ B) 0 v c
def TabQ (P : Program) (l : VTabs) (F : TabF) : Prop := ∀ (g : FuncId) (ar : List Value) (v : Value), F g ar = some (true, v) →
  (∀ (args : Array Value) (w : World), (callFunc g args).run P w = .ok (.enter g args) w) ∧ ConQ P l g ar v
theorem noQ_ok {l : VTabs} : TabQ P l noG := fun _ _ _ h => by cases h
theorem andQ_ok {l : VTabs} {k : FuncId} {f : List Value → Option (Bool × Value)} {F : TabF} {fn : Func} {c : Code} (hfn : P.funcs[k]? = some fn) (hb : fn.body = some c) (hname : (fn.name == "runtime.NumGoroutine") = false)
    (hf : ∀ ar v, f ar = some (true, v) → ConQ P l k ar v) (hF : TabQ P l F) : TabQ P l (andG k f F) := by
  intro g ar v h
  unfold andG at h
  cases hk : Nat.beq g k with
  | true =>
    rw [hk] at h
    have hg : g = k := Nat.eq_of_beq_eq_true hk
    subst hg
    exact ⟨fun args w => callFunc_enter hfn hname hb args w, hf ar v h⟩
  | false =>
    rw [hk] at h
    exact hF g ar v h
/-- A plain function. -/
theorem conQ_plain {l : VTabs} {g : FuncId} {ar : List Value} {v : Value} (hp : ar.all plainV = true) (hv : plainV v = true) (h : ∀ w S, (∀ x ∈ l, RowS w S x) → Calls P g ⟨ar⟩ w fun e w' => e = .returned v ∧ Below w.heap.size w w') : ConQ P l g ar v := by
  intro w S args hw hargs
  have ha : args = ⟨ar⟩ := Array.ext' (LRel.plainV_eq hargs hp)
  subst ha
  refine (h w S hw).mono ?_
  rintro e w' ⟨rfl, hb⟩
  exact ⟨v, rfl, hb, .plainV hv⟩

noncomputable def sumQK {R : Type} (gl : Nat → Option Nat) (l : VTabs) (d : FuncId → Nat) (F : TabF) : CK R := fun g ar h k => bif rowsV gl h l then sumGK d F g ar h k else none
noncomputable def sumQ (gl : Nat → Option Nat) (l : VTabs) (d : FuncId → Nat) (F : TabF) : CallA := fun g ar h => bif rowsV gl h l then sumG d F g ar h else none
theorem sumQK_ok {R : Type} (gl : Nat → Option Nat) (l : VTabs) (d : FuncId → Nat) (F : TabF) : CKok (R := R) (sumQ gl l d F) (sumQK gl l d F) := by
  intro g ar h k
  unfold sumQ sumQK
  cases rowsV gl h l with
  | false => rfl
  | true => exact sumGK_ok d F g ar h k
theorem sumQ_ok {l : VTabs} (hg : GTab l) (d : FuncId → Nat) {F : TabF} (hF : TabQ P l F) : CallOK P gl (sumQ gl l d F) := by
  intro g ar h v h' hc
  unfold sumQ at hc
  cases ht : rowsV gl h l with
  | false => rw [ht] at hc; cases hc
  | true =>
  rw [ht] at hc
  dsimp only [cond_true] at hc
  unfold sumG sumGK at hc
  rw [gzLn] at hc
  split at hc
  · rename_i ar' har
    split at hc
    · rename_i b u hFg
      cases b with
      | false => cases hc
      | true =>
        dsimp only [cond_true] at hc
        obtain ⟨henter, hcon⟩ := hF g ar' u hFg
        refine ⟨henter, fun μ w args hh hr => ?_⟩
        cases hp : plainV u with
        | true =>
          rw [hp] at hc
          cases hc
          refine (hcon w (fun _ => True) args (rows_of hg hh ht fun _ _ _ => trivial) (gzL_ok hh (fun B C hB => muS_some.2 ⟨trivial, (hh.fz B C hB).1⟩) (fun i _ C e fz hw => muS_some.2 ⟨trivial, e, fz, hw⟩) har (fun i hi => hi) hr)).mono ?_
          rintro e w' ⟨c, rfl, hb, hv⟩
          obtain ⟨k1, k2⟩ := hh.below hb
          refine ⟨c, μ, rfl, k1, k2, ?_⟩
          rw [hv.plainV_eq hp]
          exact .plainV hp
        | false =>
          rw [hp] at hc
          dsimp only [cond_false] at hc
          split at hc
          · rename_i h2 hk
            cases hc
            have hI : ∀ i ∈ ar.flatMap (gzI 20 (d g) h), ∃ b, h.get i = some b := fun i hi => by
              obtain ⟨x, _, hx⟩ := List.mem_flatMap.1 hi
              exact gzI_row _ _ _ _ _ hx
            generalize hIe : ar.flatMap (gzI 20 (d g) h) = I at hI hk
            have hS : LRel (muS w fun B => (∃ C, μ.fr B = some C) ∨ ∃ i ∈ I, (μ i).b = B) 0 ar' args.toList :=
              gzL_ok hh (I := I) (fun B C hB => muS_some.2 ⟨.inl ⟨C, hB⟩, (hh.fz B C hB).1⟩) (fun i hi C e fz hw => muS_some.2 ⟨.inr ⟨i, hi, rfl⟩, e, fz, hw⟩) har (fun i hi => by rw [← hIe]; exact hi) hr
            refine (hcon w _ args (rows_of hg hh ht fun B C hB => .inl ⟨C, hB⟩) hS).mono ?_
            rintro e w' ⟨c, rfl, hb, hv⟩
            obtain ⟨k1, k2⟩ := hh.below hb
            obtain ⟨n1, n2, n3, n4⟩ := killI_ok (gl := gl) (μ := μ) (w := w') I h h' hk
            obtain ⟨k3, k4⟩ := n4 k1
            have k5 := k2.trans k4
            generalize hT : (fun B => ((∃ C, μ.fr B = some C) ∨ ∃ i ∈ I, (μ i).b = B) ∨ w.heap.size ≤ B) = T at hv
            have hTB : ∀ B, T B ↔ ((∃ C, μ.fr B = some C) ∨ ∃ i ∈ I, (μ i).b = B) ∨ w.heap.size ≤ B := fun B => by rw [← hT]
            have hext : Ext h.next μ ⟨μ.loc, (muS w' T).fr⟩ (fun B => Wr μ h B ∨ w.heap.size ≤ B) := by
              refine ⟨fun i hi => rfl, fun B C hB => muS_some.2 ⟨(hTB B).2 (.inl (.inl ⟨C, hB⟩)), (k3.fz B C hB).1⟩, fun B C hB => ?_⟩
              obtain ⟨ht, e, fz, hw⟩ := muS_some.1 hB
              rcases (hTB B).1 ht with (⟨C0, h0⟩ | ⟨i, hi, rfl⟩) | h0
              · left
                obtain ⟨e0, fz0, hw0⟩ := (k3.fz B C0 h0).1
                rw [hw] at hw0
                cases hw0
                exact h0
              · right; left
                obtain ⟨x, hx⟩ := hI i hi
                exact ⟨i, x, hx, n3 i hi x hx, rfl⟩
              · right; right; exact h0
            refine ⟨c, ⟨μ.loc, (muS w' T).fr⟩, rfl, ⟨⟨k3.lt, fun i x hx => ?_, k3.sep, k3.glob⟩, fun B C hB => ⟨(muS_some.1 hB).2, fun ⟨i, x, hi, hro, hbB⟩ => ?_⟩⟩, ⟨k5.os, k5.tape, k5.output, k5.size, k5.next, hext, k5.keep, k5.own, k5.ro, k5.ron⟩, VRel.closed (μ := muS w' T) (μ' := ⟨μ.loc, (muS w' T).fr⟩) (fun B C hB => hB) hv⟩
            · exact BlkAt.same (μ := μ) (μ' := ⟨μ.loc, (muS w' T).fr⟩) (X := fun B => Wr μ h B ∨ w.heap.size ≤ B) ⟨fun j _ => rfl, hext.fr, hext.new⟩ (Nat.le_refl _) rfl (k3.blk i x hx)
            · have hi2 := n2 i
              rw [hi] at hi2
              by_cases hiI : i ∈ I
              · rw [if_pos hiI] at hi2; cases hi2
              · rw [if_neg hiI] at hi2
                rcases (hTB B).1 (muS_some.1 hB).1 with (⟨C0, h0⟩ | ⟨j, hj, hjB⟩) | h0
                · exact (k3.fz B C0 h0).2 ⟨i, x, hi, hro, hbB⟩
                · obtain ⟨y, hy⟩ := hI j hj
                  exact hh.sep i j x y hi2.symm hy (fun e => hiI (e ▸ hj)) hro (hbB.trans hjB.symm)
                · have := (hh.blk i x hi2.symm).lt
                  have hbB' : (μ i).b = B := hbB
                  omega
          · cases hc
    · cases hc
  · cases hc

/-- What a function leaves: its answer, its own rows by what they hold (so deep). -/
noncomputable def finQ {R : Type} (P : Program) (fn : Func) (d n0 : Nat) (k : Value → Option R) (x : XA) (σ : St) : Option R :=
  match x with
  | .exit _ => none
  | _ => match σ.ds with
    | [] => match resA P σ.T σ.h fn.results.toList with
      | some vs => bif (gzI 20 d σ.h (tupA vs)).all (fun i => Nat.ble n0 i) then gz 20 d σ.h (tupA vs) k else none
      | none => none
    | _ :: _ => none

/-- A function's own code, from its arguments, in a world that holds rows. -/
noncomputable def runQ (P : Program) (l : VTabs) (call : CallA) (callK : CK Value) (LK : LoopK Value) (d : Nat) (fn : Func) (ar : List Value) : Option Value :=
  codeG P (glV l) call callK LK (bodyOf fn) ⟨argsT 0 ar .nil, ar.length + (fn.ntmps - ar.length), hV l, []⟩ (finQ P fn d l.length some)
/-- From a run to what is known of the function. -/
theorem conQ {l : VTabs} {call : CallA} (hm : P.follows .mixedOrders = true) (hcall : CallOK P (glV l) call) {callK : CK Value} (hK : CKok call callK) {LO : LoopA} {LK : LoopK Value} (hL : LKok LO LK) {d : Nat} {g : FuncId} {fn : Func} {c : Code} {ar : List Value} {v : Value}
    (hfn : P.funcs[g]? = some fn) (hb : fn.body = some c) (hname : (fn.name == "runtime.NumGoroutine") = false) (hLO : LoopsOK P (glV l) (hV l) LO (loopsOf (bodyOf fn))) (hrun : runQ P l call callK LK d fn ar = some v) : ConQ P l g ar v := by
  intro w S args hrows hargs0
  obtain ⟨μ, hμe⟩ : ∃ μ, μ = muV l w S := ⟨_, rfl⟩
  have hμ : μ.fr = (muS w S).fr := by rw [hμe]; rfl
  have hargs : LRel μ (hV l).next ar args.toList := ⟨hargs0.1, fun i x y hx hy => VRel.closed (μ := muS w S) (μ' := μ) (fun B C hB => by rw [hμ]; exact hB) (hargs0.2 i x y hx hy)⟩
  have hbody : bodyOf fn = c := by unfold bodyOf; rw [hb]
  unfold runQ at hrun
  rw [codeG_eq hK hL] at hrun
  split at hrun
  · rename_i x σ hcode
    rw [hbody] at hcode hLO
    have hfin : (∀ id, x ≠ .exit id) ∧ σ.ds = [] ∧ ∃ vs, resA P σ.T σ.h fn.results.toList = some vs ∧ (gzI 20 d σ.h (tupA vs)).all (fun i => Nat.ble l.length i) = true ∧ gz 20 d σ.h (tupA vs) some = some v := by
      unfold finQ at hrun
      split at hrun
      · cases hrun
      · rename_i hx
        split at hrun
        · rename_i hds
          split at hrun
          · rename_i vs hvs
            cases hq : (gzI 20 d σ.h (tupA vs)).all (fun i => Nat.ble l.length i) with
            | false => rw [hq] at hrun; cases hrun
            | true => rw [hq] at hrun; exact ⟨fun id e => hx id e, hds, vs, hvs, hq, hrun⟩
          · cases hrun
        · cases hrun
    obtain ⟨hx, hds, vs, hres, hids, hgz⟩ := hfin
    have hk : codeBK P (glV l) (regF P (glV l)) call (toK call) (toLK LO) c ⟨argsT 0 ar .nil, ar.length + (fn.ntmps - ar.length), hV l, []⟩ (finK P fn) = some (tupA vs, σ.h) := by
      rw [codeBK_eq (toK_ok call) (toLK_ok LO), hcode]
      unfold finK
      cases x with
      | exit id => exact absurd rfl (hx id)
      | normal => simp only [hds, hres]
      | ret => simp only [hds, hres]
    refine ((oneB_ok (regF_ok hm) hcall (toK_ok call) (toLK_ok LO) hLO hfn hb hname hk).2 μ w args (.rowsV hμe hrows) hargs).mono ?_
    rintro e w' ⟨c', μ', rfl, g1, g2, g3⟩
    refine ⟨c', rfl, g2.below fun i b h => (hV_ro h).1, ?_⟩
    have hwr : ∀ B, ¬ Wr μ (hV l) B := fun B ⟨i, b, h, hr, _⟩ => by rw [(hV_ro h).1] at hr; cases hr
    exact gz_ok (I := gzI 20 d σ.h (tupA vs)) (μ2 := muS w' fun B => S B ∨ w.heap.size ≤ B) g1 (fun B C hB => by
      refine muS_some.2 ⟨?_, (g1.fz B C hB).1⟩
      rcases g2.ext.new B C hB with h | h | h
      · exact .inl (muS_some.1 (hμ ▸ h)).1
      · exact absurd h (hwr B)
      · exact .inr h) (fun i hiI C e fz hw => by
      obtain ⟨b, hi⟩ := gzI_row 20 d σ.h (tupA vs) i hiI
      refine muS_some.2 ⟨.inr ?_, e, fz, hw⟩
      cases hr : b.ro with
      | true =>
        have h1 := (hV_ro (g2.ron i b hi hr)).2
        have h2 := Nat.le_of_ble_eq_true (List.all_eq_true.1 hids i hiI)
        omega
      | false => exact (g2.own _ ⟨i, b, hi, hr, rfl⟩).resolve_left (hwr _)) 20 d (tupA vs) v hgz (fun i hi => hi) _ g3
  · cases hrun


/-- Rows and, behind them, blocks of one's own. -/
def mkHV (l : VTabs) (bs : List Blk) : AH := ⟨mkHF l.length bs (hW 0 l .nil), l.length + bs.length⟩
theorem mkHV_get (l : VTabs) (bs : List Blk) (j : Nat) : (mkHV l bs).get j = if l.length ≤ j then bs[j - l.length]? else (hV l).get j := by
  show (mkHF l.length bs (hW 0 l .nil)).get j = _
  rw [mkHF_get]
  by_cases h : l.length ≤ j
  · rw [if_pos h]
    by_cases h2 : j < l.length + bs.length
    · rw [if_pos ⟨h, h2⟩]
    · rw [if_neg (by omega), List.getElem?_eq_none (by omega), hW_get, if_pos (Nat.zero_le _), Nat.sub_zero, List.getElem?_eq_none h]
      exact Tr.get_nil _
  · rw [if_neg h, if_neg (by omega)]; rfl
theorem covers_HV {l : VTabs} (hG : GTab l) {ts ids dl : List Nat} {vs1 vs2 : List Value} {bs1 bs2 : List Blk} {σ1 : St} {n : Nat} (hn : σ1.n = n) (hd : σ1.ds = []) (hp : picks ts σ1.T = some vs1) (hb : picksH ids σ1.h = some bs1) (hlen : bs2.length = bs1.length)
    (hv : RenL (idk l.length ids) (idd l.length dl) (l.length + bs2.length) vs2 vs1) (hB : ∀ (i : Nat) (b b1 : Blk), bs2[i]? = some b → bs1[i]? = some b1 → RenB (idk l.length ids) (idd l.length dl) (l.length + bs2.length) (idx dl i) b b1) (hnd : ids.Nodup) (hge : ∀ i ∈ ids, l.length ≤ i) (hro : ∀ b ∈ bs2, b.ro = false) :
    Covers (glV l) (hV l) (stT ts vs2 n (mkHV l bs2)) σ1 := by
  obtain ⟨k1, k2⟩ := picksH_get hb
  have hid : ∀ (i : Nat), i < bs2.length → ids[i]? = some (idx ids i) := by
    intro i hi
    have : i < ids.length := by rw [← k1, ← hlen]; exact hi
    simp [idx, List.getElem?_eq_getElem this]
  have hat : ∀ (i : Nat) (b : Blk), (stT ts vs2 n (mkHV l bs2)).h.get i = some b → (l.length ≤ i ∧ bs2[i - l.length]? = some b ∧ i - l.length < bs2.length) ∨ (i < l.length ∧ (hV l).get i = some b) := fun i b hi => by
    have hi' : (mkHV l bs2).get i = some b := hi
    rw [mkHV_get] at hi'
    split at hi'
    · rename_i h; exact .inl ⟨h, hi', (List.getElem?_eq_some_iff.1 hi').1⟩
    · rename_i h; exact .inr ⟨by omega, hi'⟩
  intro μE μ1 wE w a hE hs f
  have hrow : ∀ (i : Nat) (b : Blk), (hV l).get i = some b → σ1.h.get i = some b := fun i b h => f.ro i b h (hV_ro h).1
  refine Cov.covers (ρ := idk l.length ids) (δ := idd l.length dl) ⟨hn, fun t v ht => ?_, fun i b hi => ?_, fun i b hi => ?_, fun i j bi bj hi hj he => ?_, rfl, hd, fun g i hg => ?_, fun i hi => ?_, Nat.le_add_right _ _, fun i b hi hr => ?_, fun i b hi hr => ?_⟩ μE μ1 wE w a hE hs f
  · obtain ⟨j, v1, h1, h2, h3⟩ := picks_get hp vs2 hv.1 t v ht
    exact ⟨v1, h3, hv.2 j v v1 h1 h2⟩
  · show i < l.length + bs2.length
    rcases hat i b hi with ⟨h1, h2, h3⟩ | ⟨h1, _⟩ <;> omega
  · rcases hat i b hi with ⟨h1, h2, h3⟩ | ⟨h1, h2⟩
    · have hlt1 : i - l.length < bs1.length := by omega
      have hg := List.getElem?_eq_getElem hlt1
      obtain ⟨i', g1, g2⟩ := k2 _ _ hg
      rw [hid _ h3] at g1
      cases g1
      refine ⟨_, by unfold idk; rw [if_neg (by omega)]; exact g2, ?_⟩
      have := hB (i - l.length) b _ h2 hg
      unfold idd at this ⊢
      rw [if_neg (by omega)]
      exact this
    · refine ⟨b, by unfold idk; rw [if_pos h1]; exact hrow i b h2, ?_⟩
      unfold idd
      rw [if_pos h1]
      obtain ⟨x, hx, rfl⟩ := hV_get h2
      refine ⟨rfl, rfl, Nat.zero_le _, rfl, fun j u v hu hv => ?_⟩
      rw [List.drop_zero] at hv
      rw [hu] at hv
      cases hv
      exact .gv _ (hG x (List.mem_of_getElem? hx) _ (List.mem_of_getElem? hu))
  · have gg : ∀ (i : Nat) (b : Blk), bs2[i - l.length]? = some b → i - l.length < bs2.length → l.length ≤ idx ids (i - l.length) := fun i b h1 h2 => hge _ (List.mem_of_getElem? (hid _ h2))
    rcases hat i bi hi with ⟨h1, h2, l1⟩ | ⟨h1, h2⟩ <;> rcases hat j bj hj with ⟨h3, h4, l2⟩ | ⟨h3, h4⟩
    · have e1 := hid _ l1
      have e2 := hid _ l2
      unfold idk at he
      rw [if_neg (by omega), if_neg (by omega)] at he
      rw [he] at e1
      have m1 : i - l.length < ids.length := by rw [← k1, ← hlen]; exact l1
      have m2 : j - l.length < ids.length := by rw [← k1, ← hlen]; exact l2
      rw [List.getElem?_eq_getElem m1] at e1
      rw [List.getElem?_eq_getElem m2] at e2
      have := (List.getElem_inj hnd).1 ((Option.some.inj e1).trans (Option.some.inj e2).symm)
      omega
    · have := gg i bi h2 l1
      unfold idk at he
      rw [if_neg (by omega), if_pos h3] at he
      omega
    · have := gg j bj h4 l2
      unfold idk at he
      rw [if_pos h1, if_neg (by omega)] at he
      omega
    · unfold idk at he
      rw [if_pos h1, if_pos h3] at he
      exact he
  · obtain ⟨_, x, hx, _⟩ := glW_some hg
    rw [Nat.sub_zero] at hx
    have hlt := (List.getElem?_eq_some_iff.1 hx).1
    refine ⟨?_, ?_, ?_⟩
    · show i < l.length + bs2.length
      omega
    · unfold idk; rw [if_pos hlt]
    · unfold idd; rw [if_pos hlt]
  · have hi' : i < l.length := hi
    unfold idk idd
    rw [if_pos hi', if_pos hi']
    exact ⟨rfl, rfl⟩
  · show (mkHV l bs2).get i = some b
    rw [mkHV_get, if_neg (by have := (hV_ro hi).2; omega)]
    exact hi
  · rcases hat i b hi with ⟨h1, h2, h3⟩ | ⟨h1, h2⟩
    · rw [hro b (List.mem_of_getElem? h2)] at hr
      cases hr
    · exact h2
/-- A round of a loop, in a world that holds rows. -/
noncomputable abbrev RQ (P : Program) (l : VTabs) (call : CallA) (callK : CK (XA × List Value × List Blk × Nat)) (LK : LoopK (XA × List Value × List Blk × Nat)) (fn : Func) (k : Nat) (ts ids : List Nat) (vs : List Value) (h : AH) : Option (XA × List Value × List Blk × Nat) := codeG P (glV l) call callK LK (loopN fn k) (stT ts vs fn.ntmps h) (finH ts ids)
/-- A round of a loop that changes temporaries alone. -/
noncomputable abbrev ZQ (P : Program) (l : VTabs) (call : CallA) (callK : CK (XA × List Value × AH × Nat)) (LK : LoopK (XA × List Value × AH × Nat)) (fn : Func) (k : Nat) (ts : List Nat) (vs : List Value) := bodyRunK P (glV l) call callK LK (loopN fn k) (stT ts vs fn.ntmps (hV l)) ts
noncomputable abbrev lkV {R : Type} (l : VTabs) (r : Nat) (ts : List Nat) (pre post : List Value) (n : Nat) (x : XA) (LK : LoopK R) : LoopK R := lkQ r ts (fun vs h s => some (tst (vs = pre ∧ h = hV l ∧ s = n), x, stT ts post n (hV l))) LK
noncomputable abbrev loV (l : VTabs) (r : Nat) (ts : List Nat) (pre post : List Value) (n : Nat) (x : XA) (LO : LoopA) : LoopA := loQ r ts (fun vs h s => some (tst (vs = pre ∧ h = hV l ∧ s = n), x, stT ts post n (hV l))) LO
theorem loV_ok {hE : AH} {l : VTabs} {cl : List Code} {r : Nat} {ts : List Nat} {pre post : List Value} {n : Nat} {x : XA} {LO : LoopA} (h : ∀ c ∈ cl, isReg r c = true → LoopTri P gl hE c (stT ts pre n (hV l)) x (stT ts post n (hV l))) (hL : LoopsOK P gl hE LO cl) : LoopsOK P gl hE (loV l r ts pre post n x LO) cl := by
  refine loQ_ok (fun c' hc hr σ vs x' σ' hd hp h' => ?_) hL
  simp only [Option.some.injEq, Prod.mk.injEq] at h'
  obtain ⟨ht, rfl, rfl⟩ := h'
  obtain ⟨rfl, hh, hs⟩ := of_tst ht
  exact (h c' hc hr).enter (covers_T hs (picks_mkT hp) hh.symm hd.symm)

end Go.Proofs.YtachednafdmmaaaDoor.AI
