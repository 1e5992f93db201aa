/- The abstract interpreter: code and calls. 'reg' runs a region whose order is drawn. -/
import Derived.Test.YtachednafdmmaaaDoorAIl
namespace Go.Proofs.YtachednafdmmaaaDoor.AI
open Go
set_option linter.unusedVariables false
set_option linter.unusedSimpArgs false

abbrev CallA := FuncId → List Value → AH → Option (Value × AH)

def codeA (P : Program) (gl : Nat → Option Nat) (reg : CallA → Array Oper → St → Option St) (call : CallA) (fuel : Nat) : Code → St → Option (XA × St)
  | .skip, σ => some (.normal, σ)
  | .label _, σ => some (.normal, σ)
  | .region _ ops false, σ => match opsA P gl call ops ops.toList σ with
    | some σ' => some (.normal, σ')
    | none => none
  | .region _ ops true, σ => match reg call ops σ with
    | some σ' => some (.normal, σ')
    | none => none
  | .seq a b, σ => match codeA P gl reg call fuel a σ with
    | some (.normal, σ') => codeA P gl reg call fuel b σ'
    | r => r
  | .cond c t e, σ => match evA gl σ.T c with
    | some (.bool true) => codeA P gl reg call fuel t σ
    | some (.bool false) => codeA P gl reg call fuel e σ
    | _ => none
  | .block id c, σ => match codeA P gl reg call fuel c σ with
    | some (.exit id', σ') => bif Nat.beq id' id then some (.normal, σ') else some (.exit id', σ')
    | r => r
  | .loop c, σ => iterA (fun σ => codeA P gl reg call fuel c σ) fuel σ
  | .exit id, σ => some (.exit id, σ)
  | .ret, σ => some (.ret, σ)
  | _, _ => none

def resA (P : Program) (T : Tr Value) (h : AH) : List ResultVar → Option (List Value)
  | [] => some []
  | .tmp t :: r => match T.get t with
    | some v => match resA P T h r with
      | some vs => some (v :: vs)
      | none => none
    | none => none
  | .cell a t :: r => match T.get a with
    | some (.pointer (some ⟨b, off, none⟩)) => match loadA P h t b off with
      | some v => match resA P T h r with
        | some vs => some (v :: vs)
        | none => none
      | none => none
    | _ => none

def tupA : List Value → Value
  | [v] => v
  | vs => .tuple ⟨vs⟩

def argsT : Nat → List Value → Tr Value → Tr Value
  | _, [], t => t
  | i, v :: r, t => argsT (i + 1) r (t.set i (some v))

def runDs (call : CallA) : List (FuncId × List Value) → AH → Option AH
  | [], h => some h
  | (g, ar) :: r, h => match call g ar h with
    | some (_, h') => runDs call r h'
    | none => none

/-- A call. 'd': it was put off (then it puts off none itself). -/
def callA (P : Program) (gl : Nat → Option Nat) (reg : CallA → Array Oper → St → Option St) : Nat → Bool → CallA
  | 0, _, _, _, _ => none
  | n + 1, d, g, args, h =>
    match P.funcs[g]? with
    | none => none
    | some fn => match fn.body with
      | none => none
      | some c => bif fn.name == "runtime.NumGoroutine" then none else
        match codeA P gl reg (callA P gl reg n false) n c ⟨argsT 0 args .nil, args.length + (fn.ntmps - args.length), h, []⟩ with
        | some (x, σ) => match x with
          | .exit _ => none
          | _ => bif d && !σ.ds.isEmpty then none else match runDs (callA P gl reg n true) σ.ds σ.h with
            | none => none
            | some h' => match resA P σ.T h' fn.results.toList with
              | some vs => some (tupA vs, h')
              | none => none
        | none => none

variable {P : Program} {gl : Nat → Option Nat} {μ : Mu} {n : Nat} {w : World}

def RegOK (P : Program) (gl : Nat → Option Nat) (reg : CallA → Array Oper → St → Option St) : Prop :=
  ∀ (call : CallA), CallOK P gl call → ∀ (id : Nat) (ops : Array Oper) (σ σ' : St), reg call ops σ = some σ' → ∀ (μ : Mu) (a : Act) (w : World), SRel gl μ σ a w →
    (Code.region id ops true).wp P (PostA gl μ σ.h w .normal σ') a w

theorem PostA.after {μ μ1 : Mu} {h0 h1 : AH} {w0 w1 : World} (f : Fr μ h0 w0 μ1 h1 w1) {x : XA} {σ' : St} : ∀ (e : Exit) (a : Act) (w : World), PostA gl μ1 h1 w1 x σ' e a w → PostA gl μ h0 w0 x σ' e a w :=
  fun e a w ⟨he, μ', hs, hf⟩ => ⟨he, μ', hs, f.trans hf⟩

variable {reg : CallA → Array Oper → St → Option St}

theorem codeA_ok (hreg : RegOK P gl reg) {call : CallA} (hcall : CallOK P gl call) (fuel : Nat) : ∀ (c : Code) (σ : St) (x : XA) (σ' : St), codeA P gl reg call fuel c σ = some (x, σ') → ∀ (μ : Mu) (a : Act) (w : World), SRel gl μ σ a w →
    c.wp P (PostA gl μ σ.h w x σ') a w := by
  intro c
  induction c with
  | skip => intro σ x σ' hc μ a w h; cases hc; exact wp_skip ⟨rfl, μ, h, .refl _ _ _⟩
  | label l => intro σ x σ' hc μ a w h; cases hc; exact wp_label ⟨rfl, μ, h, .refl _ _ _⟩
  | region id ops draw =>
    intro σ x σ' hc μ a w h
    cases draw with
    | false =>
      simp only [codeA] at hc
      split at hc
      · rename_i σ1 h1
        cases hc
        refine wp_region ?_
        have := opsA_ok hcall ops.toList 0 σ σ' μ a w rfl h1 h (Q := PostA gl μ σ.h w .normal σ') (fun a' w' μ' hs hf => ⟨rfl, μ', hs, hf⟩)
        rw [List.range_eq_range']
        simpa using this
      · cases hc
    | true =>
      simp only [codeA] at hc
      split at hc
      · rename_i σ1 h1
        cases hc
        exact hreg call hcall id ops σ σ' h1 μ a w h
      · cases hc
  | seq p q ihp ihq =>
    intro σ x σ' hc μ a w h
    simp only [codeA] at hc
    refine wp_seq ?_
    split at hc
    · rename_i σ1 h1
      refine wp_mono (ihp σ .normal σ1 h1 μ a w h) ?_
      rintro e a1 w1 ⟨rfl, μ1, hs1, hf1⟩
      exact wp_mono (ihq _ x σ' hc μ1 a1 w1 hs1) (PostA.after hf1)
    · rename_i hne
      refine wp_mono (ihp σ x σ' hc μ a w h) ?_
      rintro e a1 w1 ⟨rfl, μ1, hs1, hf1⟩
      cases x with
      | normal => exact absurd hc (hne σ')
      | exit id => exact ⟨rfl, μ1, hs1, hf1⟩
      | ret => exact ⟨rfl, μ1, hs1, hf1⟩
  | cond c p q ihp ihq =>
    intro σ x σ' hc μ a w h
    simp only [codeA] at hc
    split at hc
    · rename_i hb
      exact wp_cond_true (evA_rel h c _ hb).bool (ihp σ x σ' hc μ a w h)
    · rename_i hb
      exact wp_cond_false (evA_rel h c _ hb).bool (ihq σ x σ' hc μ a w h)
    · cases hc
  | block id p ih =>
    intro σ x σ' hc μ a w h
    simp only [codeA] at hc
    refine wp_block ?_
    split at hc
    · rename_i id' σ1 h1
      refine wp_mono (ih σ _ _ h1 μ a w h) ?_
      rintro e a1 w1 ⟨rfl, μ1, hs1, hf1⟩
      show (if id' = id then _ else _)
      cases hb : Nat.beq id' id with
      | true =>
        rw [hb] at hc
        cases hc
        rw [if_pos (Nat.eq_of_beq_eq_true hb)]
        exact ⟨rfl, μ1, hs1, hf1⟩
      | false =>
        rw [hb] at hc
        cases hc
        rw [if_neg (fun e => by subst e; rw [Nat.beq_refl] at hb; cases hb)]
        exact ⟨rfl, μ1, hs1, hf1⟩
    · rename_i hne
      refine wp_mono (ih σ x σ' hc μ a w h) ?_
      rintro e a1 w1 ⟨rfl, μ1, hs1, hf1⟩
      cases x with
      | normal => exact ⟨rfl, μ1, hs1, hf1⟩
      | exit id' => exact absurd hc (hne id' σ')
      | ret => exact ⟨rfl, μ1, hs1, hf1⟩
  | loop p ih =>
    intro σ x σ' hc μ a w h
    simp only [codeA] at hc
    refine wp_loop_rounds fuel ?_
    have key : ∀ (k : Nat) (σ : St) (μ : Mu) (a : Act) (w : World), iterA (fun σ => codeA P gl reg call fuel p σ) k σ = some (x, σ') → SRel gl μ σ a w →
        ∀ {Q : Exit → Act → World → Prop}, (∀ e a' w', PostA gl μ σ.h w x σ' e a' w' → x ≠ .normal → Q e a' w') → Code.rounds P p Q k a w := by
      intro k
      induction k with
      | zero => intro σ μ a w hk; cases hk
      | succ k ihk =>
        intro σ μ a w hk h Q hQ
        rw [rounds_succ]
        simp only [iterA] at hk
        split at hk
        · rename_i σ1 h1
          refine wp_mono (ih σ .normal σ1 h1 μ a w h) ?_
          rintro e a1 w1 ⟨rfl, μ1, hs1, hf1⟩
          exact ihk σ1 μ1 a1 w1 hk hs1 fun e a' w' hp hx => hQ e a' w' (PostA.after hf1 e a' w' hp) hx
        · rename_i hne
          refine wp_mono (ih σ x σ' hk μ a w h) ?_
          rintro e a1 w1 ⟨rfl, μ1, hs1, hf1⟩
          cases x with
          | normal => exact absurd hk (hne σ')
          | exit id' => exact hQ _ a1 w1 ⟨rfl, μ1, hs1, hf1⟩ (by simp)
          | ret => exact hQ _ a1 w1 ⟨rfl, μ1, hs1, hf1⟩ (by simp)
    exact key fuel σ μ a w hc h fun e a' w' hp _ => hp
  | exit id => intro σ x σ' hc μ a w h; cases hc; exact wp_exit ⟨rfl, μ, h, .refl _ _ _⟩
  | ret => intro σ x σ' hc μ a w h; cases hc; exact wp_ret ⟨rfl, μ, h, .refl _ _ _⟩
  | rangeFunc f p1 p2 p3 => intro σ x σ' hc; cases hc
  | scope p => intro σ x σ' hc; cases hc
  | goto l => intro σ x σ' hc; cases hc
  | refuse why => intro σ x σ' hc; cases hc

theorem resA_run {T : Tr Value} {h : AH} {tmps : Array Value} (hT : TRel μ h.next T tmps) (hh : HRel gl μ h w) (f : ResultVar → Sem Value) (hf1 : ∀ t, f (.tmp t) = pure (tmps.getD t undef))
    (hf2 : ∀ a t, f (.cell a t) = (do loadVar t (← asAddr (tmps.getD a undef)))) : ∀ (rs : List ResultVar) (vs : List Value), resA P T h rs = some vs →
    ∃ cs : List Value, (rs.mapM f).run P w = Result.ok cs w ∧ LRel μ h.next vs cs := by
  intro rs
  induction rs with
  | nil => intro vs hv; cases hv; exact ⟨[], rfl, .nil⟩
  | cons r rs ih =>
    intro vs hv
    cases r with
    | tmp t =>
      simp only [resA] at hv
      split at hv
      · rename_i v h1
        split at hv
        · rename_i vs' h2
          cases hv
          obtain ⟨cs, e1, e2⟩ := ih _ h2
          obtain ⟨c, g1, g2⟩ := hT _ _ h1
          refine ⟨c :: cs, ?_, .cons g2 e2⟩
          have hc : tmps.getD t undef = c := by simp [Array.getD_eq_getD_getElem?, g1]
          simp only [List.mapM_cons, hf1, Sem.run_bind, Sem.run_pure, Result.andThen_ok, e1, hc]
        · cases hv
      · cases hv
    | cell a t =>
      simp only [resA] at hv
      split at hv
      · rename_i b off h1
        split at hv
        · rename_i v h2
          split at hv
          · rename_i vs' h3
            cases hv
            obtain ⟨cs, e1, e2⟩ := ih _ h3
            obtain ⟨c0, g1, g2⟩ := hT _ _ h1
            obtain ⟨hb, rfl⟩ := g2.pointer
            obtain ⟨c, l1, l2⟩ := loadA_run (P := P) hh h2
            refine ⟨c :: cs, ?_, .cons l2 e2⟩
            have hc : tmps.getD a undef = .pointer (some ⟨(μ b).b, (μ b).o + off, none⟩) := by simp [Array.getD_eq_getD_getElem?, g1]
            have ea : (asAddr (tmps.getD a undef)).run P w = .ok ⟨(μ b).b, (μ b).o + off, none⟩ w := by rw [hc]; rfl
            simp only [List.mapM_cons, hf2, Sem.run_bind, Sem.run_pure, Result.andThen_ok, ea, l1, e1]
          · cases hv
        · cases hv
      · cases hv

theorem results_run' {T : Tr Value} {h : AH} {tmps : Array Value} (hT : TRel μ h.next T tmps) (hh : HRel gl μ h w) {rs : List ResultVar} {vs : List Value} (hv : resA P T h rs = some vs)
    (f : ResultVar → Sem Value) (hf1 : ∀ t, f (.tmp t) = pure (tmps.getD t undef)) (hf2 : ∀ a t, f (.cell a t) = (do loadVar t (← asAddr (tmps.getD a undef)))) :
    ∃ c, ((((rs.mapM f).run P w).andThen fun a w' => Result.ok a.toArray w').andThen fun a w' => Result.ok (if h : a.size = 1 then a[0] else Value.tuple a) w') = Result.ok c w ∧ VRel μ h.next (tupA vs) c := by
  obtain ⟨cs, e1, e2⟩ := resA_run (P := P) hT hh f hf1 hf2 _ _ hv
  rw [e1]
  simp only [Result.andThen_ok]
  refine ⟨_, rfl, ?_⟩
  cases vs with
  | nil =>
    cases cs with
    | nil => exact .tuple _ _ rfl (fun i x y hx _ => by simp at hx)
    | cons c cs => have := e2.1; simp at this
  | cons v vs =>
    cases cs with
    | nil => have := e2.1; simp at this
    | cons c cs =>
      cases vs with
      | nil =>
        cases cs with
        | nil =>
          simp only [tupA]
          rw [dif_pos (by rfl)]
          exact e2.head
        | cons c' cs => have := e2.1; simp at this
      | cons v' vs =>
        cases cs with
        | nil => have := e2.1; simp at this
        | cons c' cs =>
          simp only [tupA]
          rw [dif_neg (by simp)]
          exact .tuple _ _ e2.1 e2.2

theorem results_run {fn : Func} {T : Tr Value} {h : AH} {tmps : Array Value} (hT : TRel μ h.next T tmps) (hh : HRel gl μ h w) {vs : List Value} (hv : resA P T h fn.results.toList = some vs) :
    ∃ c, (results fn tmps).run P w = .ok c w ∧ VRel μ h.next (tupA vs) c := by
  unfold results
  simp only [Sem.run_bind, Array.mapM_eq_mapM_toList, Sem.run_map, Sem.run_pure]
  exact results_run' hT hh hv _ (fun _ => rfl) (fun _ _ => rfl)

theorem argsT_get : ∀ (args : List Value) (i : Nat) (T : Tr Value) (t : Nat), (argsT i args T).get t = if i ≤ t ∧ t < i + args.length then args[t - i]? else T.get t := by
  intro args
  induction args with
  | nil => intro i T t; simp only [argsT, List.length_nil]; rw [if_neg (by omega)]
  | cons v r ih =>
    intro i T t
    simp only [argsT, List.length_cons]
    rw [ih, Tr.get_set]
    by_cases h1 : i + 1 ≤ t ∧ t < i + 1 + r.length
    · rw [if_pos h1, if_pos (by omega)]
      have : t - i = (t - (i + 1)) + 1 := by omega
      rw [this, List.getElem?_cons_succ]
    · rw [if_neg h1]
      by_cases h2 : t = i
      · subst h2
        rw [if_pos rfl, if_pos (by omega), Nat.sub_self]; rfl
      · rw [if_neg h2, if_neg (by omega)]

theorem enter_rel {h : AH} (hh : HRel gl μ h w) {args : List Value} {as : Array Value} (hr : LRel μ h.next args as.toList) (nt : Nat) :
    SRel gl μ ⟨argsT 0 args .nil, args.length + (nt - args.length), h, []⟩ { tmps := as ++ Array.replicate (nt - as.size) undef, defers := [] } w := by
  have hl : as.size = args.length := by have := hr.1; simpa using this.symm
  refine ⟨by simp [hl], fun t v ht => ?_, hh, .nil⟩
  rw [argsT_get] at ht
  split at ht
  · rename_i h1
    obtain ⟨y, hy, hv⟩ := hr.get ht
    refine ⟨y, ?_, hv⟩
    rw [Array.getElem?_append_left (by omega), ← Array.getElem?_toList, ← hy]
    congr 1
  · rw [Tr.get_nil] at ht; cases ht

end Go.Proofs.YtachednafdmmaaaDoor.AI
