/- The abstract interpreter: frames, statements, calls. -/
import Derived.Test.YtachednafdmmaaaDoorAIka
import Derived.LoopN
namespace Go.Proofs.YtachednafdmmaaaDoor.AI
open Go
set_option linter.unusedVariables false
set_option linter.unusedSimpArgs false

inductive DRel (μ : Mu) (n : Nat) : List (FuncId × List Value) → List Deferred → Prop where
  | nil : DRel μ n [] []
  | cons (g : FuncId) (ar : List Value) (cap args : Array Value) (ds : List (FuncId × List Value)) (ds' : List Deferred) :
      LRel μ n ar (args.toList ++ cap.toList) → DRel μ n ds ds' → DRel μ n ((g, ar) :: ds) ({ target := .fn (.func g) cap, args := args } :: ds')

theorem DRel.mono {μ μ' : Mu} {n n' : Nat} {X : Nat → Prop} (hm : Ext n μ μ' X) (hn : n ≤ n') {ds : List (FuncId × List Value)} {ds' : List Deferred} (h : DRel μ n ds ds') : DRel μ' n' ds ds' := by
  induction h with
  | nil => exact .nil
  | cons g ar cap args ds ds' h1 h2 ih => exact .cons g ar cap args ds ds' (h1.mono hm hn) ih

def TRel (μ : Mu) (n : Nat) (T : Tr Value) (tmps : Array Value) : Prop := ∀ (t : Nat) (v : Value), T.get t = some v → ∃ c, tmps[t]? = some c ∧ VRel μ n v c

theorem TRel.mono {μ μ' : Mu} {n n' : Nat} {X : Nat → Prop} (hm : Ext n μ μ' X) (hn : n ≤ n') {T : Tr Value} {tmps : Array Value} (h : TRel μ n T tmps) : TRel μ' n' T tmps :=
  fun t v ht => let ⟨c, h1, h2⟩ := h t v ht; ⟨c, h1, h2.mono hm hn⟩

structure SRel (gl : Nat → Option Nat) (μ : Mu) (σ : St) (a : Act) (w : World) : Prop where
  size : a.tmps.size = σ.n
  tmps : TRel μ σ.h.next σ.T a.tmps
  heap : HRel gl μ σ.h w
  ds : DRel μ σ.h.next σ.ds a.defers

variable {P : Program} {gl : Nat → Option Nat} {μ : Mu} {n : Nat} {w : World}

theorem evA_rel {σ : St} {a : Act} (h : SRel gl μ σ a w) (x : Operand) (v : Value) (hv : evA gl σ.T x = some v) : VRel μ σ.h.next v (a.eval x) := by
  cases x with
  | tmp t =>
    obtain ⟨c, h1, h2⟩ := h.tmps t v hv
    have : a.eval (.tmp t) = c := by simp [Act.eval, Array.getD_eq_getD_getElem?, h1]
    rw [this]; exact h2
  | const u =>
    simp only [evA] at hv
    cases hp : plainV u with
    | false => rw [hp] at hv; cases hv
    | true => rw [hp] at hv; cases hv; exact .plainV hp
  | global g =>
    simp only [evA] at hv
    cases hg : gl g with
    | none => rw [hg] at hv; cases hv
    | some i =>
      rw [hg] at hv
      cases hv
      obtain ⟨h1, h2, h3⟩ := h.heap.glob g i hg
      have := VRel.ptr (μ := μ) i 0 h1
      rw [h2, h3] at this
      exact this
  | func f =>
    cases hv
    exact .func _ _ _ _ _ rfl (fun i x y hx _ => by simp at hx) rfl (fun i x y hx _ => by simp at hx)

theorem put_rel {σ1 σ' : St} {dst : Option Tmp} {v c : Value} (hp : putA σ1 dst v = some σ') {a : Act} {w' : World} (h : SRel gl μ σ1 a w') (hv : VRel μ σ1.h.next v c) : SRel gl μ σ' (a.put dst c) w' ∧ σ'.h = σ1.h ∧ σ'.ds = σ1.ds := by
  rw [putA_def] at hp
  split at hp
  · cases hp; exact ⟨h, rfl, rfl⟩
  · rename_i d
    cases hb : Nat.blt d σ1.n with
    | false => rw [hb] at hp; cases hp
    | true =>
      rw [hb] at hp
      cases hp
      have hd : d < σ1.n := Nat.le_of_ble_eq_true hb
      refine ⟨⟨by simp only [Act.put, Array.size_setIfInBounds]; exact h.size, fun t u hu => ?_, h.heap, h.ds⟩, rfl, rfl⟩
      dsimp only at hu
      rw [Tr.get_set] at hu
      split at hu
      · rename_i ht
        cases hu
        subst ht
        refine ⟨c, ?_, hv⟩
        simp only [Act.put]
        rw [Array.getElem?_setIfInBounds_self_of_lt (by rw [h.size]; exact hd)]
      · rename_i ht
        obtain ⟨c', h1, h2⟩ := h.tmps t u hu
        refine ⟨c', ?_, h2⟩
        simp only [Act.put]
        rw [Array.getElem?_setIfInBounds_ne (fun e => ht e.symm)]
        exact h1

/-- The state behind an operation's effect on the heap. -/
theorem SRel.heapTo {σ : St} {a : Act} (h : SRel gl μ σ a w) {h' : AH} {μ' : Mu} {w' : World} (hh : HRel gl μ' h' w') (f : Fr μ σ.h w μ' h' w') : SRel gl μ' { σ with h := h' } a w' :=
  ⟨h.size, h.tmps.mono f.ext f.next, hh, h.ds.mono f.ext f.next⟩

/-- What is asked of the calls that an interpretation makes. -/
def CallOK (P : Program) (gl : Nat → Option Nat) (call : FuncId → List Value → AH → Option (Value × AH)) : Prop :=
  ∀ (g : FuncId) (ar : List Value) (h : AH) (v : Value) (h' : AH), call g ar h = some (v, h') →
    (∀ (args : Array Value) (w : World), (callFunc g args).run P w = .ok (.enter g args) w) ∧
    ∀ (μ : Mu) (w : World) (args : Array Value), HRel gl μ h w → LRel μ h.next ar args.toList →
      Calls P g args w fun e w' => ∃ c μ', e = .returned c ∧ HRel gl μ' h' w' ∧ Fr μ h w μ' h' w' ∧ VRel μ' h'.next v c

/-- The same of calls that are put off. -/
def CallDOK (P : Program) (gl : Nat → Option Nat) (call : FuncId → List Value → AH → Option (Value × AH)) : Prop :=
  ∀ (g : FuncId) (ar : List Value) (h : AH) (v : Value) (h' : AH), call g ar h = some (v, h') →
    (∀ (args : Array Value) (w : World), (callFunc g args).run P w = .ok (.enter g args) w) ∧
    ∀ (μ : Mu) (w : World) (args : Array Value) (u : FrameMode), HRel gl μ h w → LRel μ h.next ar args.toList →
      CallsD P g args u w fun e u' w' => u' = u ∧ ∃ c μ', e = .returned c ∧ HRel gl μ' h' w' ∧ Fr μ h w μ' h' w' ∧ VRel μ' h'.next v c

theorem calleeA_ofValue {f c : Value} {l : List Value} {args : Array Value} {g : FuncId} {ar : List Value} (hc : calleeA P f l = some (g, ar)) (hf : VRel μ n f c) (hl : LRel μ n l args.toList) :
    ∃ cap args', Deferred.ofValue c args = pure { target := .fn (.func g) cap, args := args' } ∧ LRel μ n ar (args'.toList ++ cap.toList) := by
  unfold calleeA at hc
  split at hc
  · rename_i g' first cap
    cases hc
    obtain ⟨f', cap', e, h1, h2⟩ := hf.funcI
    subst e
    refine ⟨cap', f' ++ args, rfl, ?_⟩
    rw [Array.toList_append, List.append_assoc]
    exact h1.append (hl.append h2)
  · cases hc

variable {call : FuncId → List Value → AH → Option (Value × AH)}

theorem stepA_okF (hcall : CallOK P gl call) {o : Oper} {σ σ' : St} (hs : stepA P gl call o σ = some σ') {a : Act} (h : SRel gl μ σ a w) {K : Act → World → Prop} {Q : Exit → Act → World → Prop}
    (hK : ∀ a' w' μ', SRel gl μ' σ' a' w' → Fr μ σ.h w μ' σ'.h w' → (∃ (b : Act) (c : Value), a' = b.put o.dst c ∧ b.tmps = a.tmps) → K a' w') : o.wp P a w K Q := by
  have hT := evA_rel h
  rw [stepA_def] at hs
  split at hs
  · rename_i v h' d hv
    have plain : d = [] → opA P (evA gl σ.T) σ.h o.op = some (v, h') → o.wp P a w K Q := by
      intro hd ho
      subst hd
      obtain ⟨c, w', μ', h1, h2, h3, h4⟩ := opA_run h.heap hT ho
      obtain ⟨g1, g2, g3⟩ := put_rel hs (h.heapTo h2 h3) h4
      have hfr : Fr μ σ.h w μ' σ'.h w' := by rw [g2]; exact h3
      unfold Oper.wp
      rcases h1 with h1 | ⟨h1, rfl⟩
      · rw [h1]; exact hK _ _ _ g1 hfr ⟨_, _, rfl, rfl⟩
      · rw [h1]; exact hK _ _ _ g1 hfr ⟨_, _, rfl, rfl⟩
    unfold stepV at hv
    split at hv
    · rename_i b v0 hg
      cases b with
      | false => cases hv
      | true =>
        cases hv
        obtain ⟨c, w', μ', h1, h2, h3, h4⟩ := opG_run (P := P) h.heap hT hg
        obtain ⟨g1, g2, g3⟩ := put_rel hs (h.heapTo h2 h3) h4
        have hfr : Fr μ σ.h w μ' σ'.h w' := by rw [g2]; exact h3
        unfold Oper.wp
        rcases h1 with h1 | ⟨h1, rfl⟩
        · rw [h1]; exact hK _ _ _ g1 hfr ⟨_, _, rfl, rfl⟩
        · rw [h1]; exact hK _ _ _ g1 hfr ⟨_, _, rfl, rfl⟩
    · cases hv
    unfold stepO at hv
    split at hv
    · rename_i f args ts hop
      split at hv
      · rename_i fv hfv
        split at hv
        · rename_i l hl
          split at hv
          · rename_i g ar hca
            split at hv
            · rename_i v1 h1 hcl
              cases hv
              have hl' := evL_rel (h := σ.h) hT _ _ hl
              rw [← Array.toList_map] at hl'
              obtain ⟨cap, args', e1, e2⟩ := calleeA_ofValue hca (hT _ _ hfv) hl'
              obtain ⟨c1, c2⟩ := hcall g ar σ.h _ _ hcl
              have hrun : (execOp a.eval o).run P w = .ok (.enter g (args' ++ cap)) w := by
                unfold execOp
                rw [hop]
                simp only [resolve, e1, Sem.run_bind, Sem.run_pure, Result.andThen_ok, invoke, c1]
              unfold Oper.wp
              rw [hrun]
              rw [Oper.upon_enter]
              refine (c2 μ w (args' ++ cap) h.heap (by rw [Array.toList_append]; exact e2)).mono ?_
              rintro e w' ⟨c, μ', rfl, g2, g3, g4⟩
              obtain ⟨k1, k2, k3⟩ := put_rel hs (h.heapTo g2 g3) g4
              exact hK _ _ _ k1 (by rw [k2]; exact g3) ⟨_, _, rfl, rfl⟩
            · cases hv
          · cases hv
        · cases hv
      · cases hv
    · rename_i f args ts hop
      split at hv
      · rename_i fv hfv
        split at hv
        · rename_i l hl
          split at hv
          · rename_i x hca
            cases hv
            obtain ⟨g, ar⟩ := x
            have hl' := evL_rel (h := σ.h) hT _ _ hl
            rw [← Array.toList_map] at hl'
            obtain ⟨cap, args', e1, e2⟩ := calleeA_ofValue hca (hT _ _ hfv) hl'
            have hrun : (execOp a.eval o).run P w = .ok (.defer { target := .fn (.func g) cap, args := args' }) w := by
              unfold execOp
              rw [hop]
              simp only [resolve, e1, Sem.run_bind, Sem.run_pure, Result.andThen_ok]
            unfold Oper.wp
            rw [hrun, Oper.upon_defer]
            have hbase : SRel gl μ { σ with ds := [(g, ar)] ++ σ.ds } { a with defers := { target := .fn (.func g) cap, args := args' } :: a.defers } w :=
              ⟨h.size, h.tmps, h.heap, .cons g ar cap args' _ _ e2 h.ds⟩
            obtain ⟨k1, k2, k3⟩ := put_rel hs hbase .undef
            exact hK _ _ _ k1 (by rw [k2]; exact .refl _ _ _) ⟨_, _, rfl, rfl⟩
          · cases hv
        · cases hv
      · cases hv
    · split at hv
      · rename_i v1 h1 ho
        cases hv
        exact plain rfl ho
      · cases hv
  · cases hs

theorem stepA_ok (hcall : CallOK P gl call) {o : Oper} {σ σ' : St} (hs : stepA P gl call o σ = some σ') {a : Act} (h : SRel gl μ σ a w) {K : Act → World → Prop} {Q : Exit → Act → World → Prop}
    (hK : ∀ a' w' μ', SRel gl μ' σ' a' w' → Fr μ σ.h w μ' σ'.h w' → K a' w') : o.wp P a w K Q :=
  stepA_okF hcall hs h fun a' w' μ' h1 h2 _ => hK a' w' μ' h1 h2

theorem wantA_ok {ops : Array Oper} {o : Oper} {σ : St} {a : Act} (h : SRel gl μ σ a w) {b : Bool} (hw : wantA ops o σ.T = some b) : Region.wanted o (yielded ops a.tmps) = b := by
  unfold wantA at hw
  unfold Region.wanted
  split at hw
  · rename_i hg
    cases hw
    rw [hg]
  · rename_i j want hg
    rw [hg]
    dsimp only
    split at hw
    · rename_i oj hj
      rw [Array.getElem?_toList] at hj
      split at hw
      · rename_i d hd
        split at hw
        · rename_i b' hb
          cases hw
          obtain ⟨c, h1, h2⟩ := h.tmps d _ hb
          rw [h2.bool] at h1
          have : yielded ops a.tmps j = some b' := by
            unfold yielded
            simp [hj, hd, h1]
          rw [this]
          cases b' <;> cases want <;> rfl
        · rename_i vs hb
          cases hw
          obtain ⟨c, h1, h2⟩ := h.tmps d _ hb
          obtain ⟨ys, e, _⟩ := h2.tupleI
          subst e
          have : yielded ops a.tmps j = none := by
            unfold yielded
            simp [hj, hd, h1]
          rw [this]
          cases want <;> rfl
        · cases hw
      · cases hw
    · cases hw

theorem doA_ok (hcall : CallOK P gl call) {ops : Array Oper} {o : Oper} {σ σ' : St} (hs : doA P gl call ops o σ = some σ') {a : Act} (h : SRel gl μ σ a w) {K : Act → World → Prop} {Q : Exit → Act → World → Prop}
    (hK : ∀ a' w' μ', SRel gl μ' σ' a' w' → Fr μ σ.h w μ' σ'.h w' → K a' w') :
    if Region.wanted o (yielded ops a.tmps) then o.wp P a w K Q ∨ (o.asks P a w ∧ LetsOut Q) else K (a.put o.dst undef) w := by
  unfold doA at hs
  split at hs
  · rename_i hw
    rw [wantA_ok h hw, if_pos rfl]
    exact .inl (stepA_ok hcall hs h hK)
  · rename_i hw
    rw [wantA_ok h hw, if_neg (by decide)]
    obtain ⟨k1, k2, k3⟩ := put_rel hs h .undef
    exact hK _ _ _ k1 (by rw [k2]; exact .refl _ _ _)
  · cases hs

theorem opsA_ok (hcall : CallOK P gl call) {ops : Array Oper} : ∀ (l : List Oper) (k : Nat) (σ σ' : St) (μ : Mu) (a : Act) (w : World), ops.toList.drop k = l → opsA P gl call ops l σ = some σ' → SRel gl μ σ a w →
    ∀ {Q : Exit → Act → World → Prop}, (∀ a' w' μ', SRel gl μ' σ' a' w' → Fr μ σ.h w μ' σ'.h w' → Q .normal a' w') → wpOps P ops Q (List.range' k l.length) a w := by
  intro l
  induction l with
  | nil =>
    intro k σ σ' μ a w _ hs h Q hQ
    cases hs
    exact hQ a w μ h (.refl _ _ _)
  | cons o r ih =>
    intro k σ σ' μ a w hd hs h Q hQ
    unfold opsA at hs
    split at hs
    · rename_i σ1 h1
      have hk : ops[k]? = some o := by
        rw [← Array.getElem?_toList]
        have : (ops.toList.drop k)[0]? = some o := by rw [hd]; rfl
        rw [List.getElem?_drop] at this
        simpa using this
      have hd' : ops.toList.drop (k + 1) = r := by
        have : (ops.toList.drop k).drop 1 = r := by rw [hd]; rfl
        rw [List.drop_drop] at this
        exact this
      rw [List.length_cons, List.range'_succ, wpOps_cons]
      unfold wpOp
      rw [hk]
      exact doA_ok hcall h1 h fun a' w' μ' hs' f' => ih (k + 1) σ1 σ' μ' a' w' hd' hs hs' fun a'' w'' μ'' hs'' f'' => hQ a'' w'' μ'' hs'' (f'.trans f'')
    · cases hs

/-- How a piece of code is left. -/
def XA.to : XA → Exit
  | .normal => .normal
  | .exit id => .exit id
  | .ret => .ret

/-- The post of a piece of code. -/
def PostA (gl : Nat → Option Nat) (μ : Mu) (h0 : AH) (w0 : World) (x : XA) (σ' : St) : Exit → Act → World → Prop :=
  fun e a w => e = x.to ∧ ∃ μ', SRel gl μ' σ' a w ∧ Fr μ h0 w0 μ' σ'.h w

end Go.Proofs.YtachednafdmmaaaDoor.AI
