/- The abstract interpreter: functions with loops, from their arguments. -/
import Derived.Test.YtachednafdmmaaaDoorAIlb
namespace Go.Proofs.YtachednafdmmaaaDoor.AI
open Go Go.RowKit
set_option linter.unusedVariables false
set_option linter.unusedSimpArgs false

variable {P : Program}

/-- A function's own code, its loops known. -/
def runL (P : Program) (gl : Nat → Option Nat) (reg : CallA → Array Oper → St → Option St) (call : CallA) (LK : LoopK Value) (fn : Func) (ar : List Value) (h : AH) : Option Value :=
  codeBK P gl reg call (toK call) LK (bodyOf fn) ⟨argsT 0 ar .nil, ar.length + (fn.ntmps - ar.length), h, []⟩ (finV P fn)

theorem runL_K {gl : Nat → Option Nat} {reg : CallA → Array Oper → St → Option St} {call : CallA} {LO : LoopA} {LK : LoopK Value} (hL : LKok LO LK) {fn : Func} {ar : List Value} {h : AH} {v : Value} (hr : runL P gl reg call LK fn ar h = some v) :
    ∃ h', codeBK P gl reg call (toK call) (toLK LO) (bodyOf fn) ⟨argsT 0 ar .nil, ar.length + (fn.ntmps - ar.length), h, []⟩ (finK P fn) = some (v, h') := by
  unfold runL at hr
  rw [codeBK_eq (toK_ok call) hL] at hr
  rw [codeBK_eq (toK_ok call) (toLK_ok LO)]
  split at hr
  · rename_i x σ hc
    exact valOf_some hr
  · cases hr

theorem plain_callsL {reg : CallA → Array Oper → St → Option St} (hreg : RegOK P gl0 reg) {call : CallA} (hcall : CallOK P gl0 call) {LO : LoopA} {LK : LoopK Value} (hL : LKok LO LK) {g : FuncId} {fn : Func} {c : Code} {ar : List Value} {v : Value}
    (hfn : P.funcs[g]? = some fn) (hb : fn.body = some c) (hname : (fn.name == "runtime.NumGoroutine") = false) (hLO : LoopsOK P gl0 h0 LO (loopsOf (bodyOf fn))) (hrun : runL P gl0 reg call LK fn ar h0 = some v) (hp : ar.all plainV = true) (hv : plainV v = true) (w : World) :
    Calls P g ⟨ar⟩ w fun e w' => e = .returned v ∧ Below w.heap.size w w' := by
  obtain ⟨h', hr⟩ := runL_K hL hrun
  have hbody : bodyOf fn = c := by unfold bodyOf; rw [hb]
  rw [hbody] at hr hLO
  refine ((oneB_ok hreg hcall (toK_ok call) (toLK_ok LO) hLO hfn hb hname hr).2 (mu0 w) w ⟨ar⟩ (.none w) (plainV_list hp)).mono ?_
  rintro e w' ⟨c', μ', rfl, g1, g2, g3⟩
  exact ⟨by rw [g3.plainV_eq hv], g2.below fun i b h => (by simp [h0, AH.get, Tr.get_nil] at h)⟩

theorem tabs_callsL {l : Tabs} {reg : CallA → Array Oper → St → Option St} (hreg : RegOK P (glT l) reg) {call : CallA} (hcall : CallOK P (glT l) call) {LO : LoopA} {LK : LoopK Value} (hL : LKok LO LK) {g : FuncId} {fn : Func} {c : Code} {ar : List Value} {v : Value}
    (hfn : P.funcs[g]? = some fn) (hb : fn.body = some c) (hname : (fn.name == "runtime.NumGoroutine") = false) (hLO : LoopsOK P (glT l) (hT l) LO (loopsOf (bodyOf fn))) (hrun : runL P (glT l) reg call LK fn ar (hT l) = some v) (hp : ar.all plainV = true) (hv : plainV v = true) (w : World) (hw : ∀ x ∈ l, Holds w x) :
    Calls P g ⟨ar⟩ w fun e w' => e = .returned v ∧ Below w.heap.size w w' := by
  obtain ⟨h', hr⟩ := runL_K hL hrun
  have hbody : bodyOf fn = c := by unfold bodyOf; rw [hb]
  rw [hbody] at hr hLO
  refine ((oneB_ok hreg hcall (toK_ok call) (toLK_ok LO) hLO hfn hb hname hr).2 (muT l w) w ⟨ar⟩ (.tabs hw) (plainV_list hp)).mono ?_
  rintro e w' ⟨c', μ', rfl, g1, g2, g3⟩
  refine ⟨by rw [g3.plainV_eq hv], g2.below fun i b hb => ?_⟩
  obtain ⟨x, _, rfl⟩ := hT_get hb
  rfl

/-- The k-th loop's body of a function. -/
def loopN (fn : Func) (k : Nat) : Code := match (loopsOf (bodyOf fn))[k]? with
  | some c => c
  | none => .skip

end Go.Proofs.YtachednafdmmaaaDoor.AI
namespace Go.Proofs.YtachednafdmmaaaDoor.AI
open Go Go.RowKit
set_option linter.unusedVariables false
set_option linter.unusedSimpArgs false

variable {P : Program} {gl : Nat → Option Nat} {reg : CallA → Array Oper → St → Option St} {call : CallA}

/-- A function with loops that are known, its calls run in place. -/
def runLI (P : Program) (gl : Nat → Option Nat) (reg : CallA → Array Oper → St → Option St) (n : Nat) (LK : LoopK Value) (fn : Func) (ar : List Value) (h : AH) : Option Value :=
  codeBK P gl reg (callA P gl reg n false) (inK P gl reg n) LK (bodyOf fn) ⟨argsT 0 ar .nil, ar.length + (fn.ntmps - ar.length), h, []⟩ (finV P fn)

theorem runLI_L {LO : LoopA} {LK : LoopK Value} (hL : LKok LO LK) {n : Nat} {fn : Func} {ar : List Value} {h : AH} : runLI P gl reg n LK fn ar h = runL P gl reg (callA P gl reg n false) LK fn ar h := by
  unfold runLI runL
  rw [codeBK_eq (inK_ok n) hL, codeBK_eq (toK_ok _) hL]

theorem plain_callsLI (hreg : RegOK P gl0 reg) {n : Nat} {LO : LoopA} {LK : LoopK Value} (hL : LKok LO LK) {g : FuncId} {fn : Func} {c : Code} {ar : List Value} {v : Value}
    (hfn : P.funcs[g]? = some fn) (hb : fn.body = some c) (hname : (fn.name == "runtime.NumGoroutine") = false) (hLO : LoopsOK P gl0 h0 LO (loopsOf (bodyOf fn))) (hrun : runLI P gl0 reg n LK fn ar h0 = some v) (hp : ar.all plainV = true) (hv : plainV v = true) (w : World) :
    Calls P g ⟨ar⟩ w fun e w' => e = .returned v ∧ Below w.heap.size w w' := by
  rw [runLI_L hL] at hrun
  exact plain_callsL hreg (callA_ok hreg n).1 hL hfn hb hname hLO hrun hp hv w

theorem finH_some {callK : CK (XA × List Value × List Blk × Nat)} (hK : CKok call callK) {LO : LoopA} {LK : LoopK (XA × List Value × List Blk × Nat)} (hL : LKok LO LK) {c : Code} {σ : St} {ts ids : List Nat} {y : XA} {vs : List Value} {bs : List Blk} {n : Nat}
    (hr : codeBK P gl reg call callK LK c σ (finH ts ids) = some (y, vs, bs, n)) :
    ∃ σ1, codeB P gl reg call LO c σ = some (y, σ1) ∧ picks ts σ1.T = some vs ∧ picksH ids σ1.h = some bs ∧ σ1.n = n ∧ σ1.ds = [] := by
  rw [codeBK_eq hK hL] at hr
  split at hr
  · rename_i x σ1 hc
    unfold finH at hr
    split at hr
    · rename_i hd
      split at hr
      · rename_i ws hw
        split at hr
        · rename_i cs hcs
          cases hr
          exact ⟨σ1, hc, hw, hcs, rfl, hd⟩
        · cases hr
      · cases hr
    · cases hr
  · cases hr

/-- A test that is told, not run. -/
noncomputable def tst (p : Prop) : Bool := @decide p (Classical.propDecidable p)
theorem tst_of {p : Prop} (h : p) : tst p = true := @decide_eq_true p (Classical.propDecidable p) h
theorem of_tst {p : Prop} (h : tst p = true) : p := @of_decide_eq_true p (Classical.propDecidable p) h

/-- Temporaries and blocks are forgotten. -/
theorem covers_sub {σ2 σ1 : St} (hn : σ1.n = σ2.n) (hT : ∀ (t : Nat) (v : Value), σ2.T.get t = some v → σ1.T.get t = some v) (hnx : σ1.h.next = σ2.h.next) (hh : ∀ (i : Nat) (b : Blk), σ2.h.get i = some b → σ1.h.get i = some b) (hd2 : σ2.ds = []) (hd1 : σ1.ds = []) :
    Covers gl0 h0 σ2 σ1 := by
  intro μE μ1 wE w a _ hs f
  refine ⟨μ1, ⟨hs.size.trans hn, fun t v ht => ?_, ⟨⟨fun i b hb => ?_, fun i b hb => ?_, fun i j bi bj hi hj => hs.heap.sep i j bi bj (hh i bi hi) (hh j bj hj), fun g i hg => (by cases hg)⟩, fun B C hB => ⟨(hs.heap.fz B C hB).1, fun ⟨i, b, hi, hr, hb⟩ => (hs.heap.fz B C hB).2 ⟨i, b, hh i b hi, hr, hb⟩⟩⟩, ?_⟩,
    ⟨f.os, f.tape, f.output, f.size, Nat.zero_le _, f.ext, f.keep, fun B hB => ?_, fun i b hi => (by simp [h0, AH.get, Tr.get_nil] at hi), fun i b hb hr => f.ron i b (hh i b hb) hr⟩⟩
  · obtain ⟨c, h1, h2⟩ := hs.tmps t v (hT t v ht)
    rw [hnx] at h2
    exact ⟨c, h1, h2⟩
  · rw [← hnx]; exact hs.heap.lt i b (hh i b hb)
  · rw [← hnx]; exact hs.heap.blk i b (hh i b hb)
  · have := hs.ds
    rw [hd1] at this
    rw [hd2, this.nilInv]
    exact .nil
  · obtain ⟨i, b, hi, hr, hb⟩ := hB
    exact f.own B ⟨i, b, hh i b hi, hr, hb⟩

/-- What is told of one loop (its first region's number, its temporaries): a test, and what it comes to. -/
def loQ (r : Nat) (ts : List Nat) (f : List Value → AH → Nat → Option (Bool × XA × St)) (LO : LoopA) : LoopA := fun c σ =>
  bif isReg r c then (match σ.ds with
    | [] => match picks ts σ.T with
      | some vs => match f vs σ.h σ.n with
        | some (b, x, σ') => bif b then some (x, σ') else none
        | none => none
      | none => none
    | _ :: _ => none) else LO c σ
def lkQ {R : Type} (r : Nat) (ts : List Nat) (f : List Value → AH → Nat → Option (Bool × XA × St)) (LK : LoopK R) : LoopK R := fun c σ k =>
  bif isReg r c then (match σ.ds with
    | [] => match picks ts σ.T with
      | some vs => match f vs σ.h σ.n with
        | some (b, x, σ') => bif b then k x σ' else none
        | none => none
      | none => none
    | _ :: _ => none) else LK c σ k
theorem lkQ_ok {R : Type} {r : Nat} {ts : List Nat} {f : List Value → AH → Nat → Option (Bool × XA × St)} {LO : LoopA} {LK : LoopK R} (h : LKok LO LK) : LKok (loQ r ts f LO) (lkQ r ts f LK) := by
  intro c σ k
  unfold lkQ loQ
  cases isReg r c with
  | false => exact h c σ k
  | true =>
    simp only [cond_true]
    cases σ.ds with
    | cons => rfl
    | nil =>
      dsimp only
      cases picks ts σ.T with
      | none => rfl
      | some vs =>
        dsimp only
        rcases f vs σ.h σ.n with _ | ⟨b, x, σ'⟩
        · rfl
        · cases b <;> rfl
theorem loQ_ok {r : Nat} {ts : List Nat} {f : List Value → AH → Nat → Option (Bool × XA × St)} {LO : LoopA} {hE : AH} {l : List Code}
    (hf : ∀ c ∈ l, isReg r c = true → ∀ (σ : St) (vs : List Value) (x : XA) (σ' : St), σ.ds = [] → picks ts σ.T = some vs → f vs σ.h σ.n = some (true, x, σ') → LoopTri P gl hE c σ x σ') (hl : LoopsOK P gl hE LO l) : LoopsOK P gl hE (loQ r ts f LO) l := by
  intro c hc σ x σ' hr
  unfold loQ at hr
  cases hk : isReg r c with
  | false => rw [hk] at hr; exact hl c hc σ x σ' hr
  | true =>
    rw [hk] at hr
    simp only [cond_true] at hr
    split at hr
    · rename_i hd
      split at hr
      · rename_i vs hv
        split at hr
        · rename_i b y σ2 hfe
          cases b with
          | false => cases hr
          | true => cases hr; exact hf c hc hk σ vs _ _ hd hv hfe
        · cases hr
      · cases hr
    · cases hr
/-- No loop is known. -/
def noLK {R : Type} : LoopK R := fun _ _ _ => none
theorem noLK_ok {R : Type} : LKok (R := R) noLO noLK := fun c σ k => rfl

end Go.Proofs.YtachednafdmmaaaDoor.AI
namespace Go.Proofs.YtachednafdmmaaaDoor.AI
open Go Go.RowKit
set_option linter.unusedVariables false
set_option linter.unusedSimpArgs false

/-- A value whose blocks go by other names, and have more room (the new one first). -/
inductive RenE (ρ ε : Nat → Nat) (n : Nat) : Value → Value → Prop where
  | plain (v : Value) : plain1 v = true → RenE ρ ε n v v
  | gv (v : Value) : GVal v → RenE ρ ε n v v
  | ptr (b o : Nat) : b < n → RenE ρ ε n (.pointer (some ⟨b, o, none⟩)) (.pointer (some ⟨ρ b, o, none⟩))
  | slc (b o l c c' : Nat) : b < n → l ≠ 0 → (∀ s, l + c / 2 + c % 2 * (s + ε b) = l + c' / 2 + c' % 2 * s) → RenE ρ ε n (.slice (some ⟨b, o, none⟩) l c) (.slice (some ⟨ρ b, o, none⟩) l c')
def RenEL (ρ ε : Nat → Nat) (n : Nat) (xs ys : List Value) : Prop := xs.length = ys.length ∧ ∀ (i : Nat) (x y : Value), xs[i]? = some x → ys[i]? = some y → RenE ρ ε n x y
theorem RenEL.nil {ρ ε : Nat → Nat} {n : Nat} : RenEL ρ ε n [] [] := ⟨rfl, fun i x y h _ => by simp at h⟩
theorem RenEL.cons {ρ ε : Nat → Nat} {n : Nat} {x y : Value} {xs ys : List Value} (h : RenE ρ ε n x y) (t : RenEL ρ ε n xs ys) : RenEL ρ ε n (x :: xs) (y :: ys) := by
  refine ⟨by simp [t.1], fun i a b ha hb => ?_⟩
  cases i with
  | zero => simp at ha hb; subst ha hb; exact h
  | succ i => exact t.2 i a b (by simpa using ha) (by simpa using hb)

def renE (ρ ε : Nat → Nat) (μ : Mu) : Mu := ⟨fun i => ⟨(μ (ρ i)).b, (μ (ρ i)).o, (μ (ρ i)).s + ε i⟩, μ.fr⟩
theorem RenE.vrel {ρ ε : Nat → Nat} {n : Nat} {μ : Mu} {n1 : Nat} {v2 v1 : Value} (h : RenE ρ ε n v2 v1) {c : Value} (hc : VRel μ n1 v1 c) : VRel (renE ρ ε μ) n v2 c := by
  cases h with
  | plain v hv =>
    rw [hc.plain_eq hv]
    exact .plain _ hv
  | gv v hv => exact hv.vrel (μ := μ) (μ' := renE ρ ε μ) (fun _ _ h => h) hc
  | ptr b o hb =>
    obtain ⟨_, rfl⟩ := hc.pointer
    exact VRel.ptr (μ := renE ρ ε μ) b o hb
  | slc b o l c c' hb hl he =>
    cases hc with
    | plain v hv => simp [plain1] at hv
    | slc b' o1 l' k' hb' =>
      have := VRel.slc (μ := renE ρ ε μ) b o l c hb
      have e : l + c / 2 + c % 2 * (renE ρ ε μ b).s = l + c' / 2 + c' % 2 * (μ (ρ b)).s := he (μ (ρ b)).s
      rw [e] at this
      exact this
    | slc0 b' o1 o'' hb' hs => exact absurd rfl hl

def RenEB (ρ ε : Nat → Nat) (n e : Nat) : Blk → Blk → Prop
  | .row r z cs, .row r' z' cs' => r = r' ∧ z = z' ∧ ∃ us tl, cs' = us ++ tl ∧ RenEL ρ ε n cs us ∧ e * z ≤ tl.length
  | _, _ => False
theorem RenEB.ro {ρ ε : Nat → Nat} {n e : Nat} {b b1 : Blk} (h : RenEB ρ ε n e b b1) : b1.ro = b.ro := by
  cases b <;> cases b1 <;> first | exact h.elim | exact h.1.symm

theorem covers_E {ρ ε : Nat → Nat} {σ2 σ1 : St} (hn : σ1.n = σ2.n) (hT : ∀ (t : Nat) (v : Value), σ2.T.get t = some v → ∃ v1, σ1.T.get t = some v1 ∧ RenE ρ ε σ2.h.next v v1)
    (dom : ∀ (i : Nat) (b : Blk), σ2.h.get i = some b → i < σ2.h.next) (blk : ∀ (i : Nat) (b : Blk), σ2.h.get i = some b → ∃ b1, σ1.h.get (ρ i) = some b1 ∧ RenEB ρ ε σ2.h.next (ε i) b b1)
    (inj : ∀ (i j : Nat) (bi bj : Blk), σ2.h.get i = some bi → σ2.h.get j = some bj → ρ i = ρ j → i = j) (hd2 : σ2.ds = []) (hd1 : σ1.ds = []) : Covers gl0 h0 σ2 σ1 := by
  intro μE μ1 wE w a _ hs f
  refine ⟨renE ρ ε μ1, ⟨hs.size.trans hn, fun t v ht => ?_, ⟨⟨dom, fun i b hb => ?_, fun i j bi bj hi hj hne hr => ?_, fun g i hg => (by cases hg)⟩, fun B C hB => ⟨(hs.heap.fz B C hB).1, fun ⟨i, b, hi, hr, hb⟩ => by obtain ⟨b1, h1, h2⟩ := blk i b hi; exact (hs.heap.fz B C hB).2 ⟨ρ i, b1, h1, h2.ro.trans hr, hb⟩⟩⟩, ?_⟩,
    ⟨f.os, f.tape, f.output, f.size, Nat.zero_le _, ⟨fun i hi => absurd hi (Nat.not_lt_zero i), f.ext.fr, f.ext.new⟩, f.keep, fun B hB => ?_, fun i b hi => (by simp [h0, AH.get, Tr.get_nil] at hi), fun i b hb hr => ?_⟩⟩
  · obtain ⟨v1, h1, h2⟩ := hT t v ht
    obtain ⟨c, h3, h4⟩ := hs.tmps t v1 h1
    exact ⟨c, h3, h2.vrel h4⟩
  · obtain ⟨b1, h1, h2⟩ := blk i b hb
    have hat := hs.heap.blk _ _ h1
    cases b with
    | row r z cs =>
      cases b1 with
      | mp r' es' => exact h2.elim
      | row r' z' cs' =>
        obtain ⟨rfl, rfl, us, tl, rfl, h3, he⟩ := h2
        obtain ⟨C, e, fz, hr⟩ := hat
        refine ⟨C, e, fz, hr.at_, ?_, fun j v hj => ?_, hr.fr, fun g1 _ => (by subst g1; have := f.ron _ _ h1 rfl; simp [h0, AH.get, Tr.get_nil] at this)⟩
        · have := hr.fits
          have hl := h3.1
          simp only [renE, List.length_append, Nat.add_mul] at this ⊢
          omega
        · have hj' : j < us.length := by rw [← h3.1]; exact (List.getElem?_eq_some_iff.1 hj).1
          have hg : us[j]? = some us[j] := List.getElem?_eq_getElem hj'
          obtain ⟨c, g1, g2⟩ := hr.cells j us[j] (by rw [List.getElem?_append_left hj']; exact hg)
          exact ⟨c, g1, (h3.2 j v _ hj hg).vrel g2⟩
    | mp r es => cases b1 <;> exact h2.elim
  · obtain ⟨b1, h1, h2⟩ := blk i bi hi
    obtain ⟨b2, h3, h4⟩ := blk j bj hj
    exact hs.heap.sep _ _ b1 b2 h1 h3 (fun e => hne (inj i j bi bj hi hj e)) (h2.ro.trans hr)
  · have := hs.ds
    rw [hd1] at this
    rw [hd2, this.nilInv]
    exact .nil
  · obtain ⟨i, b, hi, hr, hb⟩ := hB
    obtain ⟨b1, h1, h2⟩ := blk i b hi
    exact f.own B ⟨ρ i, b1, h1, h2.ro.trans hr, hb⟩
  · obtain ⟨b1, h1, h2⟩ := blk i b hb
    have := f.ron _ _ h1 (h2.ro.trans hr)
    simp [h0, AH.get, Tr.get_nil] at this

/-- A heap of these blocks, by these names. -/
def mkL : List Nat → List Blk → Tr Blk
  | i :: is, b :: bs => (mkL is bs).set i (some b)
  | _, _ => .nil
theorem picksH_mkL : ∀ {ids : List Nat} {bs : List Blk} {h : AH}, picksH ids h = some bs → ∀ (i : Nat) (b : Blk), (mkL ids bs).get i = some b → h.get i = some b := by
  intro ids
  induction ids with
  | nil =>
    intro bs h hp i b hb
    cases hp
    simp [mkL, Tr.get_nil] at hb
  | cons u ids ih =>
    intro bs h hp i b hb
    unfold picksH at hp
    split at hp
    · rename_i x hx
      split at hp
      · rename_i ws hw
        cases hp
        rw [mkL, Tr.get_set] at hb
        split at hb
        · rename_i e; cases hb; rw [e]; exact hx
        · exact ih hw i b hb
      · cases hp
    · cases hp
theorem mkL_get : ∀ {ids : List Nat} {bs : List Blk} (i : Nat) (b : Blk), (mkL ids bs).get i = some b → ∃ j : Nat, ids[j]? = some i ∧ bs[j]? = some b := by
  intro ids
  induction ids with
  | nil => intro bs i b hb; simp [mkL, Tr.get_nil] at hb
  | cons u ids ih =>
    intro bs i b hb
    cases bs with
    | nil => simp [mkL, Tr.get_nil] at hb
    | cons x bs =>
      rw [mkL, Tr.get_set] at hb
      split at hb
      · rename_i e; cases hb; subst e; exact ⟨0, rfl, rfl⟩
      · obtain ⟨j, h1, h2⟩ := ih i b hb; exact ⟨j + 1, by simpa using h1, by simpa using h2⟩

/-- What a piece of code leaves: temporaries, blocks, where new blocks begin. -/
def finN (ts ids : List Nat) (x : XA) (σ : St) : Option (XA × List Value × List Blk × Nat × Nat) := match σ.ds with
  | [] => match picks ts σ.T with
    | some vs => match picksH ids σ.h with
      | some bs => some (x, vs, bs, σ.h.next, σ.n)
      | none => none
    | none => none
  | _ :: _ => none
theorem finN_some {P : Program} {gl : Nat → Option Nat} {reg : CallA → Array Oper → St → Option St} {call : CallA} {callK : CK (XA × List Value × List Blk × Nat × Nat)} (hK : CKok call callK) {LO : LoopA} {LK : LoopK (XA × List Value × List Blk × Nat × Nat)} (hL : LKok LO LK) {c : Code} {σ : St} {ts ids : List Nat} {y : XA} {vs : List Value} {bs : List Blk} {nx n : Nat}
    (hr : codeBK P gl reg call callK LK c σ (finN ts ids) = some (y, vs, bs, nx, n)) :
    ∃ σ1, codeB P gl reg call LO c σ = some (y, σ1) ∧ picks ts σ1.T = some vs ∧ picksH ids σ1.h = some bs ∧ σ1.h.next = nx ∧ σ1.n = n ∧ σ1.ds = [] := by
  rw [codeBK_eq hK hL] at hr
  split at hr
  · rename_i x σ1 hc
    unfold finN at hr
    split at hr
    · rename_i hd
      split at hr
      · rename_i ws hw
        split at hr
        · rename_i cs hcs
          cases hr
          exact ⟨σ1, hc, hw, hcs, rfl, rfl, hd⟩
        · cases hr
      · cases hr
    · cases hr
  · cases hr

end Go.Proofs.YtachednafdmmaaaDoor.AI
