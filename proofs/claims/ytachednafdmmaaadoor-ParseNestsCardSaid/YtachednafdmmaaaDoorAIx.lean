/- The abstract interpreter: what is known of functions whose arguments and answers are plain. -/
import Derived.Test.YtachednafdmmaaaDoorAIw
import Derived.Test.YtachednafdmmaaaDoorAIz
namespace Go.Proofs.YtachednafdmmaaaDoor.AI
open Go Go.RowKit
set_option linter.unusedVariables false
set_option linter.unusedSimpArgs false

variable {P : Program} {gl : Nat → Option Nat}

theorem HRel.below {μ : Mu} {h : AH} {w w' : World} (a : HRel gl μ h w) (b : Below w.heap.size w w') : HRel gl μ h w' ∧ Fr μ h w μ h w' := by
  obtain ⟨b1, b2, b3, b4, b5⟩ := b
  exact a.step ⟨a.lt, fun i x hx => (a.blk i x hx).same (Ext.rf _ _) (Nat.le_refl _) (b5 _ (a.blk i x hx).lt), a.sep, a.glob⟩ ⟨b1, b2, b3, b4, Nat.le_refl _, .refl _ _, fun B hB _ => b5 B hB, fun B hB => .inl hB, fun _ _ h _ => h, fun _ _ h _ => h⟩ (fun _ _ h => h)

theorem VRel.plain_eq {μ : Mu} {n : Nat} {v c : Value} (h : VRel μ n v c) (hp : plain1 v = true) : c = v := by
  cases h with
  | plain v hv => rfl
  | gsl => exact absurd hp (by simp [gslV, plain1])
  | gptr => exact absurd hp (by simp [gptrV, plain1])
  | _ => first | (simp [plain1] at hp; done) | rfl

theorem LRel.plain_eq {μ : Mu} {n : Nat} : ∀ {l : List Value} {cs : List Value}, LRel μ n l cs → l.all plain1 = true → cs = l := by
  intro l cs h hp
  refine List.ext_getElem? fun i => ?_
  cases hl : l[i]? with
  | none =>
    rw [List.getElem?_eq_none_iff] at hl ⊢
    have := h.1
    omega
  | some v =>
    obtain ⟨c, h1, h2⟩ := h.get hl
    rw [h1, h2.plain_eq (List.all_eq_true.1 hp v (List.mem_of_getElem? hl))]

/-- Functions of plain values that leave the heap as it was. -/
def sumA (F : FuncId → List Value → Option Value) : CallA := fun g ar h => match F g ar with
  | some v => some (v, h)
  | none => none

theorem sumA_ok {F : FuncId → List Value → Option Value} (hF : ∀ (g : FuncId) (ar : List Value) (v : Value), F g ar = some v → ar.all plain1 = true ∧ (∀ μ n, VRel μ n v v) ∧
    (∀ (args : Array Value) (w : World), (callFunc g args).run P w = .ok (.enter g args) w) ∧ ∀ w, Calls P g ⟨ar⟩ w fun e w' => e = .returned v ∧ Below w.heap.size w w') : CallOK P gl (sumA F) := by
  intro g ar h v h' hc
  unfold sumA at hc
  split at hc
  · rename_i v1 hv
    cases hc
    obtain ⟨h1, h2, h3, h4⟩ := hF g ar _ hv
    refine ⟨h3, fun μ w args hh hr => ?_⟩
    have ha : args = ⟨ar⟩ := by
      have := hr.plain_eq h1
      cases args
      simpa using this
    rw [ha]
    refine (h4 w).mono ?_
    rintro e w' ⟨rfl, hb⟩
    obtain ⟨k1, k2⟩ := hh.below hb
    exact ⟨_, μ, rfl, k1, k2, h2 _ _⟩
  · cases hc

/-- The one, and where it says nothing the other. -/
def orA (c1 c2 : CallA) : CallA := fun g ar h => match c1 g ar h with
  | some r => some r
  | none => c2 g ar h

theorem orA_ok {c1 c2 : CallA} (h1 : CallOK P gl c1) (h2 : CallOK P gl c2) : CallOK P gl (orA c1 c2) := by
  intro g ar h v h' hc
  unfold orA at hc
  split at hc
  · rename_i r hr
    cases hc
    exact h1 g ar h v h' hr
  · exact h2 g ar h v h' hc

def roH (h : AH) : Bool := (List.range h.next).all fun i => match h.get i with
  | some b => b.ro
  | none => true

/-- A run of the interpreter where nothing that is there may be written: its heap may be dropped. -/
def quietA (P : Program) (gl : Nat → Option Nat) (reg : CallA → Array Oper → St → Option St) (k : Nat) (fs : Nat → Bool) : CallA := fun g ar h =>
  bif fs g && roH h then match callA P gl reg k false g ar h with
    | some (v, _) => bif plain1 v then some (v, h) else none
    | none => none
  else none

theorem quietA_ok {reg : CallA → Array Oper → St → Option St} (hreg : RegOK P gl reg) (k : Nat) (fs : Nat → Bool) : CallOK P gl (quietA P gl reg k fs) := by
  intro g ar h v h' hc
  unfold quietA at hc
  cases hb : fs g && roH h with
  | false => rw [hb] at hc; cases hc
  | true =>
    rw [hb] at hc
    simp only [cond_true] at hc
    split at hc
    · rename_i v1 h1 hrun
      cases hp : plain1 v1 with
      | false => rw [hp] at hc; cases hc
      | true =>
        rw [hp] at hc
        cases hc
        obtain ⟨c1, c2⟩ := (callA_ok hreg k).1 g ar h _ h1 hrun
        refine ⟨c1, fun μ w args hh hr => (c2 μ w args hh hr).mono ?_⟩
        rintro e w' ⟨c, μ', rfl, g1, g2, g3⟩
        have hro := (Bool.and_eq_true_iff.1 hb).2
        unfold roH at hro
        rw [List.all_eq_true] at hro
        have hbel : Below w.heap.size w w' := g2.below fun i b hi => by
          have := hro i (List.mem_range.2 (hh.lt i b hi))
          rw [hi] at this
          exact this
        obtain ⟨k1, k2⟩ := hh.below hbel
        exact ⟨c, μ, rfl, k1, k2, by rw [g3.plain_eq hp]; exact .plain _ hp⟩
    · cases hc

/-- A call of which the next is asked behind it. -/
def toK {R : Type} (call : CallA) : CK R := fun g ar h k => match call g ar h with
  | some (v, h') => k v h'
  | none => none
theorem toK_ok {R : Type} (call : CallA) : CKok (R := R) call (toK call) := fun g ar h k => rfl

def bodyOf (f : Func) : Code := match f.body with
  | some c => c
  | none => .skip

/-- A function's own code, from its arguments. -/
def runK (P : Program) (gl : Nat → Option Nat) (reg : CallA → Array Oper → St → Option St) (call : CallA) (fuel : Nat) (fn : Func) (ar : List Value) (h : AH) : Option (Value × AH) :=
  codeK P gl reg call (toK call) fuel (bodyOf fn) ⟨argsT 0 ar .nil, ar.length + (fn.ntmps - ar.length), h, []⟩ (finK P fn)

theorem VRel.plainV_eq {μ : Mu} {n : Nat} {v c : Value} (h : VRel μ n v c) (hp : AI.plainV v = true) : c = v := by
  have arr : ∀ (xs ys : Array Value), LRel μ n xs.toList ys.toList → xs.toList.all plain1 = true → ys = xs := fun xs ys hl ha => Array.ext' (hl.plain_eq ha)
  cases h with
  | plain v hv => rfl
  | agg c c' l hh => rw [arr c c' ⟨l, hh⟩ hp]
  | tuple c c' l hh => rw [arr c c' ⟨l, hh⟩ hp]
  | iface t v v' _ hv => rw [hv.plain_eq (Bool.and_eq_true_iff.1 hp).2]
  | gsl => exact absurd hp (by simp [gslV, AI.plainV, gT])
  | gptr => exact absurd hp (by simp [gptrV, AI.plainV, gT])
  | _ => simp [AI.plainV, plain1] at hp

theorem LRel.plainV_eq {μ : Mu} {n : Nat} : ∀ {l : List Value} {cs : List Value}, LRel μ n l cs → l.all AI.plainV = true → cs = l := by
  intro l cs h hp
  refine List.ext_getElem? fun i => ?_
  cases hl : l[i]? with
  | none =>
    rw [List.getElem?_eq_none_iff] at hl ⊢
    have := h.1
    omega
  | some v =>
    obtain ⟨c, h1, h2⟩ := h.get hl
    rw [h1, h2.plainV_eq (List.all_eq_true.1 hp v (List.mem_of_getElem? hl))]

theorem plainV_list {μ : Mu} {n : Nat} {cs : List Value} (h : cs.all AI.plainV = true) : LRel μ n cs cs := by
  refine ⟨rfl, fun i x y hx hy => ?_⟩
  rw [hx] at hy
  cases hy
  exact .plainV (List.all_eq_true.1 h x (List.mem_of_getElem? hx))

/-- A table of functions of plain values: what each answers; nothing that was there is changed. -/
def TabOK (P : Program) (F : FuncId → List Value → Option Value) : Prop :=
  ∀ (g : FuncId) (ar : List Value) (v : Value), F g ar = some v → ar.all plainV = true ∧ plainV v = true ∧
    (∀ (args : Array Value) (w : World), (callFunc g args).run P w = .ok (.enter g args) w) ∧ ∀ w, Calls P g ⟨ar⟩ w fun e w' => e = .returned v ∧ Below w.heap.size w w'

theorem tab_ok {F : FuncId → List Value → Option Value} (hF : TabOK P F) : CallOK P gl (sumA F) := by
  intro g ar h v h' hc
  unfold sumA at hc
  split at hc
  · rename_i v1 hv
    cases hc
    obtain ⟨h1, h2, h3, h4⟩ := hF g ar _ hv
    refine ⟨h3, fun μ w args hh hr => ?_⟩
    have ha : args = ⟨ar⟩ := by
      have := hr.plainV_eq h1
      cases args
      simpa using this
    rw [ha]
    refine (h4 w).mono ?_
    rintro e w' ⟨rfl, hb⟩
    obtain ⟨k1, k2⟩ := hh.below hb
    exact ⟨_, μ, rfl, k1, k2, .plainV h2⟩
  · cases hc

def noF : FuncId → List Value → Option Value := fun _ _ => none
theorem noF_ok : TabOK P noF := fun _ _ _ h => by cases h

/-- One function more. -/
def andF (k : FuncId) (f : List Value → Option Value) (F : FuncId → List Value → Option Value) : FuncId → List Value → Option Value := fun g ar => bif Nat.beq g k then f ar else F g ar

theorem andF_ok {k : FuncId} {f : List Value → Option Value} {F : FuncId → List Value → Option Value} {fn : Func} {c : Code} (hfn : P.funcs[k]? = some fn) (hb : fn.body = some c) (hname : (fn.name == "runtime.NumGoroutine") = false)
    (hf : ∀ ar v, f ar = some v → ar.all plainV = true ∧ plainV v = true ∧ ∀ w, Calls P k ⟨ar⟩ w fun e w' => e = .returned v ∧ Below w.heap.size w w') (hF : TabOK P F) : TabOK P (andF k f F) := by
  intro g ar v h
  unfold andF at h
  cases hk : Nat.beq g k with
  | true =>
    rw [hk] at h
    have hg : g = k := Nat.eq_of_beq_eq_true hk
    subst hg
    obtain ⟨h1, h2, h3⟩ := hf ar v h
    exact ⟨h1, h2, fun args w => callFunc_enter hfn hname hb args w, h3⟩
  | false =>
    rw [hk] at h
    exact hF g ar v h

/-- A call with plain values, by its own code over what is known of those that it calls. -/
theorem plain_calls {reg : CallA → Array Oper → St → Option St} (hreg : RegOK P gl0 reg) {call : CallA} (hcall : CallOK P gl0 call) {fuel : Nat} {g : FuncId} {fn : Func} {c : Code} {ar : List Value} {h' : AH} {v : Value}
    (hfn : P.funcs[g]? = some fn) (hb : fn.body = some c) (hname : (fn.name == "runtime.NumGoroutine") = false) (hrun : runK P gl0 reg call fuel fn ar h0 = some (v, h')) (hp : ar.all plainV = true) (hv : plainV v = true) (w : World) :
    Calls P g ⟨ar⟩ w fun e w' => e = .returned v ∧ Below w.heap.size w w' := by
  have hbody : bodyOf fn = c := by unfold bodyOf; rw [hb]
  unfold runK at hrun
  rw [hbody] at hrun
  refine ((oneK_ok hreg hcall (toK_ok call) hfn hb hname hrun).2 (mu0 w) w ⟨ar⟩ (.none w) (plainV_list hp)).mono ?_
  rintro e w' ⟨c', μ', rfl, g1, g2, g3⟩
  rw [g3.plainV_eq hv]
  exact ⟨rfl, g2.below fun i b h => (by simp [h0, AH.get, Tr.get_nil] at h)⟩

/-- The same, of a truth value's law. -/
def boolOf : Option (Value × AH) → Option Bool
  | some (.bool b, _) => some b
  | _ => none
theorem boolOf_some {r : Option (Value × AH)} {b : Bool} (h : boolOf r = some b) : ∃ h', r = some (.bool b, h') := by
  unfold boolOf at h
  split at h
  · cases h; exact ⟨_, rfl⟩
  · cases h

/-- What a run leaves, without the heap. -/
def valOf : Option (Value × AH) → Option Value
  | some (v, _) => some v
  | none => none
theorem valOf_some {r : Option (Value × AH)} {v : Value} (h : valOf r = some v) : ∃ h', r = some (v, h') := by
  unfold valOf at h
  split at h
  · cases h; exact ⟨_, rfl⟩
  · cases h

/-- A function's own code, told without the heap. -/
def finV (P : Program) (fn : Func) (x : XA) (σ : St) : Option Value := valOf (finK P fn x σ)
def runV (P : Program) (gl : Nat → Option Nat) (reg : CallA → Array Oper → St → Option St) (call : CallA) (fuel : Nat) (fn : Func) (ar : List Value) (h : AH) : Option Value :=
  codeK P gl reg call (toK call) fuel (bodyOf fn) ⟨argsT 0 ar .nil, ar.length + (fn.ntmps - ar.length), h, []⟩ (finV P fn)
theorem runV_some {reg : CallA → Array Oper → St → Option St} {call : CallA} {fuel : Nat} {fn : Func} {ar : List Value} {h : AH} {v : Value} (hr : runV P gl reg call fuel fn ar h = some v) : ∃ h', runK P gl reg call fuel fn ar h = some (v, h') := by
  unfold runV at hr
  rw [codeK_eq (toK_ok call)] at hr
  unfold runK
  rw [codeK_eq (toK_ok call)]
  split at hr
  · rename_i x σ hc
    exact valOf_some hr
  · cases hr
theorem plain_callsV {reg : CallA → Array Oper → St → Option St} (hreg : RegOK P gl0 reg) {call : CallA} (hcall : CallOK P gl0 call) {fuel : Nat} {g : FuncId} {fn : Func} {c : Code} {ar : List Value} {v : Value}
    (hfn : P.funcs[g]? = some fn) (hb : fn.body = some c) (hname : (fn.name == "runtime.NumGoroutine") = false) (hrun : runV P gl0 reg call fuel fn ar h0 = some v) (hp : ar.all plainV = true) (hv : plainV v = true) (w : World) :
    Calls P g ⟨ar⟩ w fun e w' => e = .returned v ∧ Below w.heap.size w w' := by
  obtain ⟨h', hr⟩ := runV_some hrun
  exact plain_calls hreg hcall hfn hb hname hr hp hv w

end Go.Proofs.YtachednafdmmaaaDoor.AI
