/- The abstract interpreter, fast runs: steps, regions. -/
import Derived.Test.YtgfjnnkhlgmbcaaAIfg
namespace Go.Proofs.Ytgfjnnkhlgmbcaa.AI
open Go
set_option linter.unusedVariables false
set_option linter.unusedSimpArgs false

variable {P : Program} {gl : Nat → Option Nat} {T : TT} {S : Tr Value} {f : FH} {h : AH} {ck : CallK} {ca : CallA} {r : Value}

theorem stepF_mk {g : FG} {l : FL} {o : FOp} {d : FD} {ds : DS} {rds : RDS} {k : KT} : stepF (mkStep g l o d) T f ds rds ck k = guardF g T (doF l o T f rds ck fun v f' rds' => putF d v T fun T' => k T' f' ds rds') (putF d undef T fun T' => k T' f ds rds) := by
  cases g <;> cases l <;> cases d <;> rfl

theorem guardF_some {ops : Array Oper} {o : Oper} {fg : FG} {go skip : O1} (hc : compG ops.toList o.guard = some fg) (hT : SimT T S) (hr : guardF fg T go skip = some r) : (wantA ops o S = some true ∧ go = some r) ∨ (wantA ops o S = some false ∧ skip = some r) := by
  unfold wantA
  cases hg : o.guard with
  | none =>
    rw [hg] at hc
    cases hc
    exact .inl ⟨rfl, hr⟩
  | some jw =>
    obtain ⟨j, want⟩ := jw
    rw [hg] at hc
    unfold compG at hc
    dsimp only at hc ⊢
    cases hoj : ops.toList[j]? with
    | none => rw [hoj] at hc; cases hc
    | some oj =>
      rw [hoj] at hc
      dsimp only at hc ⊢
      cases hd : oj.dst with
      | none => rw [hd] at hc; cases hc
      | some t =>
        rw [hd] at hc
        dsimp only at hc ⊢
        cases hs : slot t with
        | none => rw [hs] at hc; cases hc
        | some de =>
          obtain ⟨d, e⟩ := de
          rw [hs] at hc
          cases hc
          obtain ⟨ht, rfl, rfl⟩ := slot_some hs
          have hr : getT (d16 (t / 16)) (d16 (t % 16)) T (fun c => Bool.rec (motive := fun _ => O1) (guardK c skip go skip) (guardK c go skip skip) want) = some r := hr
          have q := getT_some hr
          clear hr
          obtain ⟨v, hv, hr⟩ := q
          rw [hT t v ht hv]
          cases want with
          | true =>
            have hr : guardK v go skip skip = some r := hr
            rcases guardK_some hr with ⟨rfl, h⟩ | ⟨rfl, h⟩ | ⟨⟨vs, rfl⟩, h⟩
            · exact .inl ⟨rfl, h⟩
            · exact .inr ⟨rfl, h⟩
            · exact .inr ⟨rfl, h⟩
          | false =>
            have hr : guardK v skip go skip = some r := hr
            rcases guardK_some hr with ⟨rfl, h⟩ | ⟨rfl, h⟩ | ⟨⟨vs, rfl⟩, h⟩
            · exact .inr ⟨rfl, h⟩
            · exact .inl ⟨rfl, h⟩
            · exact .inr ⟨rfl, h⟩

theorem putF_some {n m : Nat} {dst : Option Tmp} {fd : FD} {v : Value} {k : TT → O1} (hc : compD n dst = some fd) (hn : n ≤ m) (hT : SimT T S) (hr : putF fd v T k = some r) :
    ∃ S' T', (∀ h ds, putA ⟨S, m, h, ds⟩ dst v = some ⟨S', m, h, ds⟩) ∧ SimT T' S' ∧ k T' = some r := by
  cases dst with
  | none => cases hc; exact ⟨S, T, fun _ _ => rfl, hT, hr⟩
  | some t =>
    unfold compD at hc
    dsimp only at hc
    cases hb : Nat.blt t n with
    | false => rw [hb] at hc; cases hc
    | true =>
      rw [hb] at hc
      simp only [cond_true] at hc
      cases hs : slot t with
      | none => rw [hs] at hc; cases hc
      | some de =>
        obtain ⟨d, e⟩ := de
        rw [hs] at hc
        cases hc
        have hr : setT d e (some v) T k = some r := hr
        obtain ⟨T', h1, h2⟩ := setT_sim hs hT hr
        have hlt : Nat.blt t m = true := Nat.ble_eq_true_of_le (Nat.le_trans (Nat.le_of_ble_eq_true hb) hn)
        exact ⟨_, T', fun h ds => by rw [putA_def]; simp only [hlt, cond_true], h2, h1⟩

/-- A step that is an operation, or puts off. -/
inductive StepIs (P : Program) (gl : Nat → Option Nat) (n : Nat) (ops : List Oper) (l : FL) (o : Oper) (s : FStep) : Prop where
  | op (g : FG) (d : FD) (fo : FOp) : compG ops o.guard = some g → compD n o.dst = some d → compOp P gl o.op = some fo → s = mkStep g l fo d → StepIs P gl n ops l o s
  | dfr (g : FG) (d : FD) (fx : Operand) (args : Array Operand) (ts : Array TypeId) (a : FArg) (as : List FArg) : l = .no → compG ops o.guard = some g → compD n o.dst = some d → o.op = .defer ⟨.value fx, args, ts⟩ → compArg gl fx = some a → compArgs gl args.toList = some as →
      s = .dfr g a as d → StepIs P gl n ops l o s

theorem compStep_is {n : Nat} {ops : List Oper} {l : FL} {o : Oper} {s : FStep} (h : compStep P gl n ops l o = some s) : StepIs P gl n ops l o s := by
  unfold compStep at h
  cases hg : compG ops o.guard with
  | none => rw [hg] at h; cases h
  | some g =>
    rw [hg] at h
    dsimp only at h
    cases hd : compD n o.dst with
    | none => rw [hd] at h; cases h
    | some d =>
      rw [hd] at h
      dsimp only at h
      split at h
      · rename_i fx args ts hop
        split at h
        · split at h
          · rename_i a ha
            split at h
            · rename_i as has; cases h; exact .dfr g d fx args ts a as rfl hg hd hop ha has rfl
            · cases h
          · cases h
        · cases h
      · rename_i op hop
        split at h
        · rename_i fo hfo; cases h; exact .op g d fo hg hd hfo rfl
        · cases h

theorem dfr_stepV {fx : Operand} {args : Array Operand} {ts : Array TypeId} {a : FArg} {as : List FArg} {k : FuncId → List Value → O1} (ha : compArg gl fx = some a) (hc : compArgs gl args.toList = some as) (hT : SimT T S) (hr : dfrK a as T k = some r) :
    ∃ g l, (∀ h, stepV P ca (evA gl S) h (.defer ⟨.value fx, args, ts⟩) = some (undef, h, [(g, l)])) ∧ k g l = some r := by
  unfold dfrK at hr
  have q := evF_some ha hT hr
  clear hr
  obtain ⟨fv, hfv, hr⟩ := q
  have q := funK_some hr
  clear hr
  obtain ⟨g, first, cap, rfl, hr⟩ := q
  have q := evFL_some hc hT hr
  clear hr
  obtain ⟨l, h1, hr⟩ := q
  rw [catK_eq, catK_eq] at hr
  refine ⟨g, _, fun h => ?_, hr⟩
  rw [stepV_no rfl]
  simp only [stepO, hfv, h1, calleeA]

theorem step_plain {n m : Nat} {ops : Array Oper} {o : Oper} {s : FStep} {ds : DS} {rds : RDS} {k : KT} (hc : compStep P gl n ops.toList .no o = some s) (hn : n ≤ m) (hT : SimT T S) (hh : SimH f h) (hcs : CallSim ck ca) (hr : stepF s T f ds rds ck k = some r) :
    ∃ S' h' ds' T' f', doA P gl ca ops o ⟨S, m, h, ds⟩ = some ⟨S', m, h', ds'⟩ ∧ SimT T' S' ∧ SimH f' h' ∧ k T' f' ds' rds = some r := by
  cases compStep_is hc with
  | op g d fo hg hd hfo e =>
    subst e
    rw [stepF_mk] at hr
    rcases guardF_some hg hT hr with ⟨hw, hr⟩ | ⟨hw, hr⟩
    · rename_i hr0
      clear hr0
      have hr : semF fo T f ck (fun v f' => putF d v T fun T' => k T' f' ds rds) = some r := hr
      obtain ⟨v, h', f', h1, h2, hr⟩ := comp_sim hfo T S f h ck ca _ r hT hh hcs hr
      obtain ⟨S', T', h3, h4, hr⟩ := putF_some hd hn hT hr
      refine ⟨S', h', ds, T', f', ?_, h4, h2, hr⟩
      unfold doA
      rw [hw]
      show stepA P gl ca o ⟨S, m, h, ds⟩ = _
      unfold stepA
      dsimp only
      rw [h1]
      exact h3 h' ([] ++ ds)
    · rename_i hr0
      clear hr0
      obtain ⟨S', T', h3, h4, hr⟩ := putF_some hd hn hT hr
      refine ⟨S', h, ds, T', f, ?_, h4, hh, hr⟩
      unfold doA
      rw [hw]
      exact h3 h ds
  | dfr g d fx args ts a as _ hg hd hop ha has e =>
    subst e
    have hr : guardF g T (dfrK a as T fun g ar => putF d undef T fun T' => k T' f ((g, ar) :: ds) rds) (putF d undef T fun T' => k T' f ds rds) = some r := hr
    rcases guardF_some hg hT hr with ⟨hw, hr⟩ | ⟨hw, hr⟩
    · rename_i hr0
      clear hr0
      obtain ⟨g', l, h1, hr⟩ := dfr_stepV (P := P) (ca := ca) (ts := ts) ha has hT hr
      obtain ⟨S', T', h3, h4, hr⟩ := putF_some hd hn hT hr
      refine ⟨S', h, (g', l) :: ds, T', f, ?_, h4, hh, hr⟩
      unfold doA
      rw [hw]
      show stepA P gl ca o ⟨S, m, h, ds⟩ = _
      unfold stepA
      dsimp only
      rw [hop, h1]
      exact h3 h ([(g', l)] ++ ds)
    · rename_i hr0
      clear hr0
      obtain ⟨S', T', h3, h4, hr⟩ := putF_some hd hn hT hr
      refine ⟨S', h, ds, T', f, ?_, h4, hh, hr⟩
      unfold doA
      rw [hw]
      exact h3 h ds

theorem steps_plain {n m : Nat} {ops : Array Oper} (hn : n ≤ m) (hcs : CallSim ck ca) {k : KT} : ∀ {l : List Oper} {ss : List FStep} {T : TT} {S : Tr Value} {f : FH} {h : AH} {ds : DS} {rds : RDS}, compPlain P gl n ops.toList l = some ss → SimT T S → SimH f h →
    stepsF ss T f ds rds ck k = some r → ∃ S' h' ds' T' f', opsA P gl ca ops l ⟨S, m, h, ds⟩ = some ⟨S', m, h', ds'⟩ ∧ SimT T' S' ∧ SimH f' h' ∧ k T' f' ds' rds = some r := by
  intro l
  induction l with
  | nil => intro ss T S f h ds rds hc hT hh hr; cases hc; exact ⟨S, h, ds, T, f, rfl, hT, hh, hr⟩
  | cons o l ih =>
    intro ss T S f h ds rds hc hT hh hr
    simp only [compPlain] at hc
    split at hc
    · rename_i s hs
      split at hc
      · rename_i ss' hss
        cases hc
        have hr : stepF s T f ds rds ck (fun T' f' ds' rds' => stepsF ss' T' f' ds' rds' ck k) = some r := hr
        obtain ⟨S1, h1, ds1, T1, f1, e1, hT1, hh1, hr⟩ := step_plain hs hn hT hh hcs hr
        obtain ⟨S2, h2, ds2, T2, f2, e2, hT2, hh2, hr⟩ := ih hss hT1 hh1 hr
        exact ⟨S2, h2, ds2, T2, f2, by simp only [opsA, e1, e2], hT2, hh2, hr⟩
      · cases hc
    · cases hc

end Go.Proofs.Ytgfjnnkhlgmbcaa.AI
