/- The abstract interpreter, fast runs: steps, regions. -/
import Derived.Test.YtgfjnnkhlgmbcaaGreatAIfd
namespace Go.Proofs.YtgfjnnkhlgmbcaaGreat.AI
open Go
set_option linter.unusedVariables false
set_option linter.unusedSimpArgs false

variable {P : Program} {gl : Nat → Option Nat} {T : TT} {S : Tr Value} {f : FH} {h : AH} {ck : CallK} {ca : CallA} {r : Value}

theorem stepF_mk {g : FG} {l : FL} {o : FOp} {d : FD} {ds : DS} {rds : RDS} {k : KT} : stepF (mkStep g l o d) T f ds rds ck k = guardF g T (doF l o T f rds ck fun v f' rds' => putF d v T fun T' => k T' f' ds rds') (putF d undef T fun T' => k T' f ds rds) := by
  cases g <;> cases l <;> cases d <;> rfl

theorem guardF_some {ops : Array Oper} {o : Oper} {fg : FG} {go skip : O1} (hc : compG ops.toList o.guard = some fg) (hT : SimT T S) (hr : guardF fg T go skip = some r) : (wantA ops o S = some true ∧ go = some r) ∨ (wantA ops o S = some false ∧ skip = some r) := by
  unfold wantA
  cases hg : o.guard with
  | none =>
    rw [hg] at hc
    cases hc
    exact .inl ⟨rfl, hr⟩
  | some jw =>
    obtain ⟨j, want⟩ := jw
    rw [hg] at hc
    unfold compG at hc
    dsimp only at hc ⊢
    cases hoj : ops.toList[j]? with
    | none => rw [hoj] at hc; cases hc
    | some oj =>
      rw [hoj] at hc
      dsimp only at hc ⊢
      cases hd : oj.dst with
      | none => rw [hd] at hc; cases hc
      | some t =>
        rw [hd] at hc
        dsimp only at hc ⊢
        cases hs : slot t with
        | none => rw [hs] at hc; cases hc
        | some de =>
          obtain ⟨d, e⟩ := de
          rw [hs] at hc
          cases hc
          obtain ⟨ht, rfl, rfl⟩ := slot_some hs
          have hr : getT (d16 (t / 16)) (d16 (t % 16)) T (fun c => Bool.rec (motive := fun _ => O1) (guardK c skip go skip) (guardK c go skip skip) want) = some r := hr
          have q := getT_some hr
          clear hr
          obtain ⟨v, hv, hr⟩ := q
          rw [hT t v ht hv]
          cases want with
          | true =>
            have hr : guardK v go skip skip = some r := hr
            rcases guardK_some hr with ⟨rfl, h⟩ | ⟨rfl, h⟩ | ⟨⟨vs, rfl⟩, h⟩
            · exact .inl ⟨rfl, h⟩
            · exact .inr ⟨rfl, h⟩
            · exact .inr ⟨rfl, h⟩
          | false =>
            have hr : guardK v skip go skip = some r := hr
            rcases guardK_some hr with ⟨rfl, h⟩ | ⟨rfl, h⟩ | ⟨⟨vs, rfl⟩, h⟩
            · exact .inr ⟨rfl, h⟩
            · exact .inl ⟨rfl, h⟩
            · exact .inr ⟨rfl, h⟩

theorem putF_some {n m : Nat} {dst : Option Tmp} {fd : FD} {v : Value} {k : TT → O1} (hc : compD n dst = some fd) (hn : n ≤ m) (hT : SimT T S) (hr : putF fd v T k = some r) :
    ∃ S' T', (∀ h ds, putA ⟨S, m, h, ds⟩ dst v = some ⟨S', m, h, ds⟩) ∧ SimT T' S' ∧ k T' = some r := by
  cases dst with
  | none => cases hc; exact ⟨S, T, fun _ _ => rfl, hT, hr⟩
  | some t =>
    unfold compD at hc
    dsimp only at hc
    cases hb : Nat.blt t n with
    | false => rw [hb] at hc; cases hc
    | true =>
      rw [hb] at hc
      simp only [cond_true] at hc
      cases hs : slot t with
      | none => rw [hs] at hc; cases hc
      | some de =>
        obtain ⟨d, e⟩ := de
        rw [hs] at hc
        cases hc
        have hr : setT d e (some v) T k = some r := hr
        obtain ⟨T', h1, h2⟩ := setT_sim hs hT hr
        have hlt : Nat.blt t m = true := Nat.ble_eq_true_of_le (Nat.le_trans (Nat.le_of_ble_eq_true hb) hn)
        exact ⟨_, T', fun h ds => by rw [putA_def]; simp only [hlt, cond_true], h2, h1⟩

/-- A step that is an operation, or puts off. -/
inductive StepIs (P : Program) (gl : Nat → Option Nat) (n : Nat) (ops : List Oper) (l : FL) (o : Oper) (s : FStep) : Prop where
  | op (g : FG) (d : FD) (fo : FOp) : compG ops o.guard = some g → compD n o.dst = some d → compOp P gl o.op = some fo → s = mkStep g l fo d → StepIs P gl n ops l o s
  | dfr (g : FG) (d : FD) (fx : Operand) (args : Array Operand) (ts : Array TypeId) (a : FArg) (as : List FArg) : l = .no → compG ops o.guard = some g → compD n o.dst = some d → o.op = .defer ⟨.value fx, args, ts⟩ → compArg gl fx = some a → compArgs gl args.toList = some as →
      s = .dfr g a as d → StepIs P gl n ops l o s

theorem compStep_is {n : Nat} {ops : List Oper} {l : FL} {o : Oper} {s : FStep} (h : compStep P gl n ops l o = some s) : StepIs P gl n ops l o s := by
  unfold compStep at h
  cases hg : compG ops o.guard with
  | none => rw [hg] at h; cases h
  | some g =>
    rw [hg] at h
    dsimp only at h
    cases hd : compD n o.dst with
    | none => rw [hd] at h; cases h
    | some d =>
      rw [hd] at h
      dsimp only at h
      split at h
      · rename_i fx args ts hop
        split at h
        · split at h
          · rename_i a ha
            split at h
            · rename_i as has; cases h; exact .dfr g d fx args ts a as rfl hg hd hop ha has rfl
            · cases h
          · cases h
        · cases h
      · rename_i op hop
        split at h
        · rename_i fo hfo; cases h; exact .op g d fo hg hd hfo rfl
        · cases h

theorem dfr_stepV {fx : Operand} {args : Array Operand} {ts : Array TypeId} {a : FArg} {as : List FArg} {k : FuncId → List Value → O1} (ha : compArg gl fx = some a) (hc : compArgs gl args.toList = some as) (hT : SimT T S) (hr : dfrK a as T k = some r) :
    ∃ g l, (∀ h, stepV P ca (evA gl S) h (.defer ⟨.value fx, args, ts⟩) = some (undef, h, [(g, l)])) ∧ k g l = some r := by
  unfold dfrK at hr
  have q := evF_some ha hT hr
  clear hr
  obtain ⟨fv, hfv, hr⟩ := q
  have q := funK_some hr
  clear hr
  obtain ⟨g, first, cap, rfl, hr⟩ := q
  have q := evFL_some hc hT hr
  clear hr
  obtain ⟨l, h1, hr⟩ := q
  rw [catK_eq, catK_eq] at hr
  refine ⟨g, _, fun h => ?_, hr⟩
  rw [stepV_no rfl]
  simp only [stepO, hfv, h1, calleeA]

theorem step_plain {n m : Nat} {ops : Array Oper} {o : Oper} {s : FStep} {ds : DS} {rds : RDS} {k : KT} (hc : compStep P gl n ops.toList .no o = some s) (hn : n ≤ m) (hT : SimT T S) (hh : SimH f h) (hcs : CallSim ck ca) (hr : stepF s T f ds rds ck k = some r) :
    ∃ S' h' ds' T' f', doA P gl ca ops o ⟨S, m, h, ds⟩ = some ⟨S', m, h', ds'⟩ ∧ SimT T' S' ∧ SimH f' h' ∧ k T' f' ds' rds = some r := by
  cases compStep_is hc with
  | op g d fo hg hd hfo e =>
    subst e
    rw [stepF_mk] at hr
    rcases guardF_some hg hT hr with ⟨hw, hr⟩ | ⟨hw, hr⟩
    · rename_i hr0
      clear hr0
      have hr : semF fo T f ck (fun v f' => putF d v T fun T' => k T' f' ds rds) = some r := hr
      obtain ⟨v, h', f', h1, h2, hr⟩ := comp_sim hfo T S f h ck ca _ r hT hh hcs hr
      obtain ⟨S', T', h3, h4, hr⟩ := putF_some hd hn hT hr
      refine ⟨S', h', ds, T', f', ?_, h4, h2, hr⟩
      unfold doA
      rw [hw]
      show stepA P gl ca o ⟨S, m, h, ds⟩ = _
      unfold stepA
      dsimp only
      rw [h1]
      exact h3 h' ([] ++ ds)
    · rename_i hr0
      clear hr0
      obtain ⟨S', T', h3, h4, hr⟩ := putF_some hd hn hT hr
      refine ⟨S', h, ds, T', f, ?_, h4, hh, hr⟩
      unfold doA
      rw [hw]
      exact h3 h ds
  | dfr g d fx args ts a as _ hg hd hop ha has e =>
    subst e
    have hr : guardF g T (dfrK a as T fun g ar => putF d undef T fun T' => k T' f ((g, ar) :: ds) rds) (putF d undef T fun T' => k T' f ds rds) = some r := hr
    rcases guardF_some hg hT hr with ⟨hw, hr⟩ | ⟨hw, hr⟩
    · rename_i hr0
      clear hr0
      obtain ⟨g', l, h1, hr⟩ := dfr_stepV (P := P) (ca := ca) (ts := ts) ha has hT hr
      obtain ⟨S', T', h3, h4, hr⟩ := putF_some hd hn hT hr
      refine ⟨S', h, (g', l) :: ds, T', f, ?_, h4, hh, hr⟩
      unfold doA
      rw [hw]
      show stepA P gl ca o ⟨S, m, h, ds⟩ = _
      unfold stepA
      dsimp only
      rw [hop, h1]
      exact h3 h ([(g', l)] ++ ds)
    · rename_i hr0
      clear hr0
      obtain ⟨S', T', h3, h4, hr⟩ := putF_some hd hn hT hr
      refine ⟨S', h, ds, T', f, ?_, h4, hh, hr⟩
      unfold doA
      rw [hw]
      exact h3 h ds

theorem steps_plain {n m : Nat} {ops : Array Oper} (hn : n ≤ m) (hcs : CallSim ck ca) {k : KT} : ∀ {l : List Oper} {ss : List FStep} {T : TT} {S : Tr Value} {f : FH} {h : AH} {ds : DS} {rds : RDS}, compPlain P gl n ops.toList l = some ss → SimT T S → SimH f h →
    stepsF ss T f ds rds ck k = some r → ∃ S' h' ds' T' f', opsA P gl ca ops l ⟨S, m, h, ds⟩ = some ⟨S', m, h', ds'⟩ ∧ SimT T' S' ∧ SimH f' h' ∧ k T' f' ds' rds = some r := by
  intro l
  induction l with
  | nil => intro ss T S f h ds rds hc hT hh hr; cases hc; exact ⟨S, h, ds, T, f, rfl, hT, hh, hr⟩
  | cons o l ih =>
    intro ss T S f h ds rds hc hT hh hr
    simp only [compPlain] at hc
    split at hc
    · rename_i s hs
      split at hc
      · rename_i ss' hss
        cases hc
        have hr : stepF s T f ds rds ck (fun T' f' ds' rds' => stepsF ss' T' f' ds' rds' ck k) = some r := hr
        obtain ⟨S1, h1, ds1, T1, f1, e1, hT1, hh1, hr⟩ := step_plain hs hn hT hh hcs hr
        obtain ⟨S2, h2, ds2, T2, f2, e2, hT2, hh2, hr⟩ := ih hss hT1 hh1 hr
        exact ⟨S2, h2, ds2, T2, f2, by simp only [opsA, e1, e2], hT2, hh2, hr⟩
      · cases hc
    · cases hc

end Go.Proofs.YtgfjnnkhlgmbcaaGreat.AI
namespace Go.Proofs.YtgfjnnkhlgmbcaaGreat.AI
open Go
set_option linter.unusedVariables false
set_option linter.unusedSimpArgs false

variable {P : Program} {gl : Nat → Option Nat} {T : TT} {S : Tr Value} {f : FH} {h : AH} {ck : CallK} {ca : CallA} {r : Value}

theorem lockB_eq (x : Blk) : lockB x = x.lock := by cases x <;> rfl

theorem set_sim (hh : SimH f h) {b : Nat} {x : Blk} {m : QH} (e : ∀ c, QH.get m c = if c = b then some x else QH.get f.m c) : SimH ⟨m, f.n⟩ ⟨h.m.set b (some x), h.next⟩ := by
  refine ⟨hh.1, fun c y hy => ?_⟩
  rw [e] at hy
  show (h.m.set b (some x)).get c = some y
  rw [Tr.get_set]
  by_cases e : c = b
  · rw [if_pos e] at hy ⊢; exact hy
  · rw [if_neg e] at hy ⊢; exact hh.2 c y hy

theorem lockF_some : ∀ {l : List Nat} {f : FH} {h : AH} {k : FH → O1}, SimH f h → lockF l f k = some r → ∃ hl fl, lockAll l h = some hl ∧ SimH fl hl ∧ k fl = some r := by
  intro l
  induction l with
  | nil => intro f h k hh hr; exact ⟨h, f, rfl, hh, hr⟩
  | cons b l ih =>
    intro f h k hh hr
    have hr : gH b f.1 (fun x => sH b (some (lockB x)) f.1 fun m => lockF l ⟨m, f.2⟩ k) = some r := hr
    obtain ⟨x, e1, hr⟩ := gH_some hr
    obtain ⟨m, hr, e2⟩ := sH_some hr
    rw [lockB_eq] at e2
    obtain ⟨hl, fl, e3, e4, hr⟩ := ih (set_sim hh e2) hr
    refine ⟨hl, fl, ?_, e4, hr⟩
    simp only [lockAll, hh.2 b x e1]
    exact e3

theorem unlockF_some {f0 : FH} {h0 : AH} (h00 : SimH f0 h0) : ∀ {l : List Nat} {f : FH} {h : AH} {k : FH → O1}, SimH f h → unlockF f0 l f k = some r → ∃ f', SimH f' (unlockAll h0 l h) ∧ k f' = some r := by
  intro l
  induction l with
  | nil => intro f h k hh hr; exact ⟨f, hh, hr⟩
  | cons b l ih =>
    intro f h k hh hr
    have hr : gH b f0.1 (fun x => sH b (some x) f.1 fun m => unlockF f0 l ⟨m, f.2⟩ k) = some r := hr
    obtain ⟨x, e1, hr⟩ := gH_some hr
    obtain ⟨m, hr, e2⟩ := sH_some hr
    obtain ⟨f', e3, hr⟩ := ih (set_sim hh e2) hr
    refine ⟨f', ?_, hr⟩
    simp only [unlockAll, h00.2 b x e1]
    exact e3

theorem rdArg_blk {op : Op} {c : Nat} {a : FArg} {k : Value → O1} (hc : rdArg gl op = some (c, a)) (hT : SimT T S) (hr : evF a T k = some r) : ∃ u, k u = some r ∧ rdBlk (evA gl S) op = blkOf c u := by
  unfold rdArg at hc
  have one : ∀ {x : Operand} {c' : Nat}, (compArg gl x).map (fun y => (c', y)) = some (c, a) → ∃ u, evA gl S x = some u ∧ k u = some r ∧ c' = c := by
    intro x c' he
    cases hx : compArg gl x with
    | none => rw [hx] at he; cases he
    | some y =>
      rw [hx] at he
      cases he
      obtain ⟨u, h1, h2⟩ := evF_some hx hT hr
      exact ⟨u, h1, h2, rfl⟩
  split at hc
  · obtain ⟨u, h1, h2, rfl⟩ := one hc
    refine ⟨u, h2, ?_⟩
    simp only [rdBlk, h1, blkOf]
    cases u <;> first | rfl | (rename_i p; cases p <;> rfl)
  · obtain ⟨u, h1, h2, rfl⟩ := one hc
    refine ⟨u, h2, ?_⟩
    simp only [rdBlk, h1, blkOf]
    cases u <;> first | rfl | (rename_i p _ _; cases p <;> rfl)
  · obtain ⟨u, h1, h2, rfl⟩ := one hc
    refine ⟨u, h2, ?_⟩
    simp only [rdBlk, h1, blkOf]
    cases u <;> first | rfl | (rename_i p; cases p <;> rfl)
  · split at hc
    · rename_i x xs hx
      obtain ⟨u, h1, h2, rfl⟩ := one hc
      refine ⟨u, h2, ?_⟩
      simp only [rdBlk, hx, h1, blkOf]
      cases u <;> first | rfl | (rename_i p; cases p <;> rfl)
    · cases hc
  · cases hc

theorem lastOk_of {b ef : Nat} {last : Option Nat} (he : Nat.beq (Nat.land b ef) ef = true) (hl : ∀ x, last = some x → ef.testBit x = true) : lastOk b last = true := by
  cases last with
  | none => rfl
  | some x =>
    have h1 := hl x rfl
    have h2 : Nat.land b ef = ef := Nat.eq_of_beq_eq_true he
    have h2 : b &&& ef = ef := h2
    rw [← h2, Nat.testBit_and, Bool.and_eq_true] at h1
    exact h1.1

theorem bit_or {ef i x : Nat} (h : ef.testBit x = true) : (ef ||| 2 ^ i).testBit x = true := by rw [Nat.testBit_or, h]; rfl
theorem bit_self {ef i : Nat} : (ef ||| 2 ^ i).testBit i = true := by rw [Nat.testBit_or, Nat.testBit_two_pow]; simp

/-- A step in its place. -/
theorem stepR_sim {n m : Nat} {ops : Array Oper} {bef : List Nat} {i : Nat} {o : Oper} (hn : n ≤ m) (hcs : CallSim ck ca) {l : FL} {s : FStep} {done ef : Nat} {rs : List Nat} {last : Option Nat} {ds : DS} {rds : RDS} {k : KT} (ho : ops.toList[i]? = some o)
    (hd : (!Nat.beq (Nat.land (befN bef i) done) (befN bef i) || done.testBit i) = false) (hc : compStep P gl n ops.toList l o = some s) (hT : SimT T S) (hh : SimH f h) (hlast : ∀ x, last = some x → ef.testBit x = true) (hrds : ∀ x ∈ rds, x.1 ∈ rs)
    (hcl : (clsA P o.op = 0 ∧ l = .no) ∨ (clsA P o.op = 1 ∧ Nat.beq (Nat.land (befN bef i) ef) ef = true ∧ ∃ c a, rdArg gl o.op = some (c, a) ∧ l = .rd i c a) ∨
      ((clsA P o.op ≠ 0 ∧ clsA P o.op ≠ 1) ∧ Nat.beq (Nat.land (befN bef i) ef) ef = true ∧ ((l = .no ∧ ∀ j ∈ rs, (befN bef i).testBit j = true) ∨ l = .wr (befN bef i))))
    (hr : stepF s T f ds rds ck k = some r) :
    ∃ S' h' ds' T' f' last' rds', stepR P gl ca ops bef i ⟨⟨S, m, h, ds⟩, done, last, rds⟩ = some ⟨⟨S', m, h', ds'⟩, done ||| 2 ^ i, last', rds'⟩ ∧ SimT T' S' ∧ SimH f' h' ∧ k T' f' ds' rds' = some r ∧
      ((last' = last ∧ (∀ x ∈ rds', x.1 ∈ rs ∨ (x.1 = i ∧ clsA P o.op = 1))) ∨ (last' = some i ∧ rds' = rds ∧ clsA P o.op ≠ 0 ∧ clsA P o.op ≠ 1)) := by
  have hb : (bef[i]?).getD 0 = befN bef i := rfl
  have hno : (rds.filter fun x => !(befN bef i).testBit x.1) = [] ∨ True := .inr trivial
  have skip : ∀ {g : FG} {d : FD}, compD n o.dst = some d → wantA ops o S = some false → putF d undef T (fun T' => k T' f ds rds) = some r →
      ∃ S' h' ds' T' f' last' rds', stepR P gl ca ops bef i ⟨⟨S, m, h, ds⟩, done, last, rds⟩ = some ⟨⟨S', m, h', ds'⟩, done ||| 2 ^ i, last', rds'⟩ ∧ SimT T' S' ∧ SimH f' h' ∧ k T' f' ds' rds' = some r ∧
        ((last' = last ∧ (∀ x ∈ rds', x.1 ∈ rs ∨ (x.1 = i ∧ clsA P o.op = 1))) ∨ (last' = some i ∧ rds' = rds ∧ clsA P o.op ≠ 0 ∧ clsA P o.op ≠ 1)) := by
    intro g d hdd hw hr
    obtain ⟨S', T', h3, h4, hr⟩ := putF_some hdd hn hT hr
    refine ⟨S', h, ds, T', f, last, rds, ?_, h4, hh, hr, .inl ⟨rfl, fun x hx => .inl (hrds x hx)⟩⟩
    unfold stepR
    rw [ho]
    dsimp only
    rw [hb, hd]
    simp only [cond_false]
    rw [hw]
    dsimp only
    rw [h3 h ds]
  cases compStep_is hc with
  | op g d fo hg hdd hfo e =>
    subst e
    rw [stepF_mk] at hr
    rcases guardF_some hg hT hr with ⟨hw, hr⟩ | ⟨hw, hr⟩
    · rename_i hr0
      clear hr0
      rcases hcl with ⟨hc0, rfl⟩ | ⟨hc1, he, c, a, hra, rfl⟩ | ⟨⟨hc2, hc3⟩, he, hl⟩
      · have hr : semF fo T f ck (fun v f' => putF d v T fun T' => k T' f' ds rds) = some r := hr
        obtain ⟨v, h', f', h1, h2, hr⟩ := comp_sim hfo T S f h ck ca _ r hT hh hcs hr
        obtain ⟨S', T', h3, h4, hr⟩ := putF_some hdd hn hT hr
        refine ⟨S', h', ds, T', f', last, rds, ?_, h4, h2, hr, .inl ⟨rfl, fun x hx => .inl (hrds x hx)⟩⟩
        unfold stepR
        rw [ho]
        dsimp only
        rw [hb, hd]
        simp only [cond_false]
        rw [hw, hc0]
        dsimp only
        have e : stepA P gl ca o ⟨S, m, h, ds⟩ = some ⟨S', m, h', ds⟩ := by
          unfold stepA
          dsimp only
          rw [h1]
          exact h3 h' ([] ++ ds)
        rw [e]
        rfl
      · have hr : semF fo T f ck (fun v f' => evF a T fun u => Option.rec (motive := fun _ => O1) (putF d v T fun T' => k T' f' ds rds) (fun b => putF d v T fun T' => k T' f' ds ((i, b) :: rds)) (blkOf c u)) = some r := hr
        obtain ⟨v, h', f', h1, h2, hr⟩ := comp_sim hfo T S f h ck ca _ r hT hh hcs hr
        obtain ⟨u, hr, hu⟩ := rdArg_blk hra hT hr
        have main : ∃ rds', (match rdBlk (evA gl S) o.op with | some k => (i, k) :: rds | none => rds) = rds' ∧ putF d v T (fun T' => k T' f' ds rds') = some r ∧ ∀ x ∈ rds', x.1 ∈ rs ∨ x.1 = i := by
          rw [hu]
          cases hbk : blkOf c u with
          | none => rw [hbk] at hr; exact ⟨rds, rfl, hr, fun x hx => .inl (hrds x hx)⟩
          | some b =>
            rw [hbk] at hr
            refine ⟨(i, b) :: rds, rfl, hr, fun x hx => ?_⟩
            rcases List.mem_cons.1 hx with rfl | hx
            · exact .inr rfl
            · exact .inl (hrds x hx)
        clear hr
        obtain ⟨rds', e2, hr, e3⟩ := main
        obtain ⟨S', T', h3, h4, hr⟩ := putF_some hdd hn hT hr
        refine ⟨S', h', ds, T', f', last, rds', ?_, h4, h2, hr, .inl ⟨rfl, fun x hx => (e3 x hx).imp id fun e => ⟨e, hc1⟩⟩⟩
        unfold stepR
        rw [ho]
        dsimp only
        rw [hb, hd]
        simp only [cond_false]
        rw [hw, hc1]
        dsimp only
        rw [lastOk_of he hlast]
        simp only [cond_true]
        have e : stepA P gl ca o ⟨S, m, h, ds⟩ = some ⟨S', m, h', ds⟩ := by
          unfold stepA
          dsimp only
          rw [h1]
          exact h3 h' ([] ++ ds)
        rw [e]
        subst e2
        rfl
      · -- what may change the heap
        have main : ∃ hl v h1 f1, lockAll ((rds.filter fun x => !(befN bef i).testBit x.1).map (·.2)) h = some hl ∧ stepV P ca (evA gl S) hl o.op = some (v, h1, []) ∧ SimH f1 (unlockAll h ((rds.filter fun x => !(befN bef i).testBit x.1).map (·.2)) h1) ∧
            putF d v T (fun T' => k T' f1 ds rds) = some r := by
          rcases hl with ⟨rfl, hall⟩ | rfl
          · have hf : (rds.filter fun x => !(befN bef i).testBit x.1) = [] := by
              rw [List.filter_eq_nil_iff]
              intro x hx
              rw [hall _ (hrds x hx)]
              simp
            rw [hf]
            have hr : semF fo T f ck (fun v f' => putF d v T fun T' => k T' f' ds rds) = some r := hr
            obtain ⟨v, h', f', h1, h2, hr⟩ := comp_sim hfo T S f h ck ca _ r hT hh hcs hr
            exact ⟨h, v, h', f', rfl, h1, h2, hr⟩
          · have hr : lockF ((rds.filter fun x => !(befN bef i).testBit x.1).map (·.2)) f (fun hl => semF fo T hl ck fun v h' => unlockF f ((rds.filter fun x => !(befN bef i).testBit x.1).map (·.2)) h' fun h2 => putF d v T fun T' => k T' h2 ds rds) = some r := hr
            obtain ⟨hl, fl, e1, e2, hr⟩ := lockF_some hh hr
            obtain ⟨v, h', f', h1, h2, hr⟩ := comp_sim hfo T S fl hl ck ca _ r hT e2 hcs hr
            obtain ⟨f2, e3, hr⟩ := unlockF_some hh h2 hr
            exact ⟨hl, v, h', f2, e1, h1, e3, hr⟩
        clear hr
        obtain ⟨hl', v, h1, f1, e1, e2, e3, hr⟩ := main
        obtain ⟨S', T', h3, h4, hr⟩ := putF_some hdd hn hT hr
        refine ⟨S', _, ds, T', f1, some i, rds, ?_, h4, e3, hr, .inr ⟨rfl, rfl, hc2, hc3⟩⟩
        unfold stepR
        rw [ho]
        dsimp only
        rw [hb, hd]
        simp only [cond_false]
        rw [hw]
        dsimp only
        rw [lastOk_of he hlast]
        simp only [cond_true]
        rw [e1]
        dsimp only
        have e : stepA P gl ca o ⟨S, m, hl', ds⟩ = some ⟨S', m, h1, ds⟩ := by
          unfold stepA
          dsimp only
          rw [e2]
          exact h3 h1 ([] ++ ds)
        rw [e]
    · rename_i hr0
      clear hr0
      exact skip (g := g) hdd hw hr
  | dfr g d fx args ts a as hno' hg hdd hop ha has e =>
    subst e
    subst hno'
    have hr : guardF g T (dfrK a as T fun g ar => putF d undef T fun T' => k T' f ((g, ar) :: ds) rds) (putF d undef T fun T' => k T' f ds rds) = some r := hr
    rcases guardF_some hg hT hr with ⟨hw, hr⟩ | ⟨hw, hr⟩
    · rename_i hr0
      clear hr0
      have hc2 : clsA P o.op = 2 := by rw [hop]; rfl
      rcases hcl with ⟨hc0, _⟩ | ⟨hc1, _⟩ | ⟨_, he, ⟨_, hall⟩ | hl⟩
      · rw [hc2] at hc0; cases hc0
      · rw [hc2] at hc1; cases hc1
      · obtain ⟨g', l', h1, hr⟩ := dfr_stepV (P := P) (ca := ca) (ts := ts) ha has hT hr
        obtain ⟨S', T', h3, h4, hr⟩ := putF_some hdd hn hT hr
        have hf : (rds.filter fun x => !(befN bef i).testBit x.1) = [] := by
          rw [List.filter_eq_nil_iff]
          intro x hx
          rw [hall _ (hrds x hx)]
          simp
        refine ⟨S', h, (g', l') :: ds, T', f, some i, rds, ?_, h4, hh, hr, .inr ⟨rfl, rfl, by rw [hc2]; decide, by rw [hc2]; decide⟩⟩
        unfold stepR
        rw [ho]
        dsimp only
        rw [hb, hd]
        simp only [cond_false]
        rw [hw, hc2]
        dsimp only
        rw [lastOk_of he hlast, hf]
        simp only [cond_true, List.map_nil, lockAll]
        have e : stepA P gl ca o ⟨S, m, h, ds⟩ = some ⟨S', m, h, (g', l') :: ds⟩ := by
          unfold stepA
          dsimp only
          rw [hop, h1]
          exact h3 h ([(g', l')] ++ ds)
        rw [e]
        rfl
      · cases hl
    · rename_i hr0
      clear hr0
      exact skip (g := g) hdd hw hr

theorem ord_sim {n m : Nat} {ops : Array Oper} {bef : List Nat} (hn : n ≤ m) (hcs : CallSim ck ca) {k : KT} : ∀ {l : List Nat} {done ef : Nat} {rs : List Nat} {ss : List FStep} {T : TT} {S : Tr Value} {f : FH} {h : AH} {ds : DS} {rds : RDS} {last : Option Nat},
    compOrd P gl n ops.toList bef l done ef rs = some ss → SimT T S → SimH f h → (∀ x, last = some x → ef.testBit x = true) → (∀ x ∈ rds, x.1 ∈ rs) → stepsF ss T f ds rds ck k = some r →
    ∃ S' h' ds' T' f' last' rds' done', runR P gl ca ops bef l ⟨⟨S, m, h, ds⟩, done, last, rds⟩ = some ⟨⟨S', m, h', ds'⟩, done', last', rds'⟩ ∧ SimT T' S' ∧ SimH f' h' ∧ k T' f' ds' rds' = some r := by
  intro l
  induction l with
  | nil => intro done ef rs ss T S f h ds rds last hc hT hh _ _ hr; cases hc; exact ⟨S, h, ds, T, f, last, rds, done, rfl, hT, hh, hr⟩
  | cons i l ih =>
    intro done ef rs ss T S f h ds rds last hc hT hh hlast hrds hr
    unfold compOrd at hc
    cases ho : ops.toList[i]? with
    | none => rw [ho] at hc; cases hc
    | some o =>
      rw [ho] at hc
      dsimp only at hc
      cases hd : (!Nat.beq (Nat.land (befN bef i) done) (befN bef i) || done.testBit i) with
      | true => rw [hd] at hc; cases hc
      | false =>
        rw [hd] at hc
        simp only [cond_false] at hc
        split at hc
        · rename_i hc0
          split at hc
          · rename_i s hs
            split at hc
            · rename_i ss' hss
              cases hc
              have hr : stepF s T f ds rds ck (fun T' f' ds' rds' => stepsF ss' T' f' ds' rds' ck k) = some r := hr
              obtain ⟨S1, h1, ds1, T1, f1, last1, rds1, e1, hT1, hh1, hr, hx⟩ := stepR_sim hn hcs ho hd hs hT hh hlast hrds (.inl ⟨hc0, rfl⟩) hr
              rcases hx with ⟨rfl, hx⟩ | ⟨_, _, hx, _⟩
              · obtain ⟨S2, h2, ds2, T2, f2, last2, rds2, done2, e2, g1, g2, g3⟩ := ih hss hT1 hh1 hlast (fun x hxx => (hx x hxx).elim id fun q => by rw [hc0] at q; cases q.2) hr
                exact ⟨S2, h2, ds2, T2, f2, last2, rds2, done2, by simp only [runR, e1, e2], g1, g2, g3⟩
              · exact absurd hc0 hx
            · cases hc
          · cases hc
        · rename_i hc1
          cases he : Nat.beq (Nat.land (befN bef i) ef) ef with
          | false => rw [he] at hc; cases hc
          | true =>
            rw [he] at hc
            simp only [Bool.not_true, cond_false] at hc
            split at hc
            · rename_i c a hra
              split at hc
              · rename_i s hs
                split at hc
                · rename_i ss' hss
                  cases hc
                  have hr : stepF s T f ds rds ck (fun T' f' ds' rds' => stepsF ss' T' f' ds' rds' ck k) = some r := hr
                  obtain ⟨S1, h1, ds1, T1, f1, last1, rds1, e1, hT1, hh1, hr, hx⟩ := stepR_sim hn hcs ho hd hs hT hh hlast hrds (.inr (.inl ⟨hc1, he, c, a, hra, rfl⟩)) hr
                  rcases hx with ⟨rfl, hx⟩ | ⟨_, _, _, hx⟩
                  · obtain ⟨S2, h2, ds2, T2, f2, last2, rds2, done2, e2, g1, g2, g3⟩ := ih hss hT1 hh1 hlast (fun x hxx => (hx x hxx).elim (fun q => by simp [q]) fun q => by simp [q.1]) hr
                    exact ⟨S2, h2, ds2, T2, f2, last2, rds2, done2, by simp only [runR, e1, e2], g1, g2, g3⟩
                  · exact absurd hc1 hx
                · cases hc
              · cases hc
            · cases hc
        · rename_i hc0 hc1
          cases he : Nat.beq (Nat.land (befN bef i) ef) ef with
          | false => rw [he] at hc; cases hc
          | true =>
            rw [he] at hc
            simp only [Bool.not_true, cond_false] at hc
            split at hc
            · rename_i s hs
              split at hc
              · rename_i ss' hss
                cases hc
                have hr : stepF s T f ds rds ck (fun T' f' ds' rds' => stepsF ss' T' f' ds' rds' ck k) = some r := hr
                have hl : ((bif rs.all fun j => (befN bef i).testBit j then FL.no else .wr (befN bef i)) = .no ∧ ∀ j ∈ rs, (befN bef i).testBit j = true) ∨ (bif rs.all fun j => (befN bef i).testBit j then FL.no else .wr (befN bef i)) = .wr (befN bef i) := by
                  cases hall : rs.all fun j => (befN bef i).testBit j with
                  | true => exact .inl ⟨rfl, List.all_eq_true.1 hall⟩
                  | false => exact .inr rfl
                obtain ⟨S1, h1, ds1, T1, f1, last1, rds1, e1, hT1, hh1, hr, hx⟩ := stepR_sim hn hcs ho hd hs hT hh hlast hrds (.inr (.inr ⟨⟨hc0, hc1⟩, he, hl⟩)) hr
                have hl1 : ∀ x, last1 = some x → (ef ||| 2 ^ i).testBit x = true := by
                  intro x hx1
                  rcases hx with ⟨rfl, _⟩ | ⟨rfl, _⟩
                  · exact bit_or (hlast x hx1)
                  · cases hx1; exact bit_self
                have hr1 : ∀ x ∈ rds1, x.1 ∈ rs := by
                  intro x hx1
                  rcases hx with ⟨_, hx⟩ | ⟨_, rfl, _⟩
                  · exact (hx x hx1).elim id fun q => absurd q.2 hc1
                  · exact hrds x hx1
                obtain ⟨S2, h2, ds2, T2, f2, last2, rds2, done2, e2, g1, g2, g3⟩ := ih hss hT1 hh1 hl1 hr1 hr
                exact ⟨S2, h2, ds2, T2, f2, last2, rds2, done2, by simp only [runR, e1, e2], g1, g2, g3⟩
              · cases hc
            · cases hc

theorem stepN_new {n m : Nat} {ops : Array Oper} {bef : List Nat} {i : Nat} {o : Oper} (hn : n ≤ m) (hcs : CallSim ck ca) {s : FStep} {done : Nat} {rs : List Nat} {last : Option Nat} {ds : DS} {rds : RDS} {k : KT} (ho : ops.toList[i]? = some o)
    (hd : (!Nat.beq (Nat.land (befN bef i) done) (befN bef i) || done.testBit i) = false) (hnw : isNew o = true) (hc : compStep P gl n ops.toList (bif rs.isEmpty then .no else .nw) o = some s) (hT : SimT T S) (hh : SimH f h) (hrds : ∀ x ∈ rds, x.1 ∈ rs)
    (hr : stepF s T f ds rds ck k = some r) :
    ∃ S' h' ds' T' f', stepN P gl ca ops bef i ⟨⟨S, m, h, ds⟩, done, last, rds⟩ = some ⟨⟨S', m, h', ds'⟩, done ||| 2 ^ i, some i, rds⟩ ∧ SimT T' S' ∧ SimH f' h' ∧ k T' f' ds' rds = some r := by
  obtain ⟨hg0, _, hcl, hop⟩ := isNew_some (P := P) hnw
  cases compStep_is hc with
  | op g d fo hg hdd hfo e =>
    subst e
    rw [stepF_mk] at hr
    rw [hg0] at hg
    cases hg
    have main : (rds.all fun x => !Nat.beq x.2 h.next) = true ∧ semF fo T f ck (fun v f' => putF d v T fun T' => k T' f' ds rds) = some r := by
      cases hrs : rs.isEmpty with
      | true =>
        rw [hrs] at hr
        refine ⟨?_, hr⟩
        rw [List.all_eq_true]
        intro x hx
        have := hrds x hx
        rw [List.isEmpty_iff.1 hrs] at this
        cases this
      | false =>
        rw [hrs] at hr
        have hr : condK (rds.all fun x => !Nat.beq x.2 f.2) (semF fo T f ck (fun v f' => putF d v T fun T' => k T' f' ds rds)) = some r := hr
        obtain ⟨h1, hr⟩ := condK_some hr
        exact ⟨by rw [← hh.1]; exact h1, hr⟩
    clear hr
    obtain ⟨hall, hr⟩ := main
    obtain ⟨v, h', f', h1, h2, hr⟩ := comp_sim hfo T S f h ck ca _ r hT hh hcs hr
    obtain ⟨S', T', h3, h4, hr⟩ := putF_some hdd hn hT hr
    refine ⟨S', h', ds, T', f', ?_, h4, h2, hr⟩
    unfold stepN
    rw [ho]
    dsimp only
    rw [hnw, hd]
    simp only [cond_true, cond_false]
    rw [hall]
    simp only [cond_true]
    have e : stepA P gl ca o ⟨S, m, h, ds⟩ = some ⟨S', m, h', ds⟩ := by
      unfold stepA
      dsimp only
      rw [h1]
      exact h3 h' ([] ++ ds)
    rw [e]
  | dfr g d fx args ts a as hno' hg hdd hop' ha has e =>
    rcases hop with ⟨t, ho'⟩ | ⟨t, len, ps, ho'⟩
    · rw [ho'] at hop'; cases hop'
    · rw [ho'] at hop'; cases hop'

/-- The same where rows may be made at any time. -/
theorem ordN_sim {n m : Nat} {ops : Array Oper} {bef : List Nat} (hn : n ≤ m) (hcs : CallSim ck ca) {k : KT} : ∀ {l : List Nat} {done ef : Nat} {rs : List Nat} {ss : List FStep} {T : TT} {S : Tr Value} {f : FH} {h : AH} {ds : DS} {rds : RDS} {last : Option Nat},
    compOrdN P gl n ops.toList bef l done ef rs = some ss → SimT T S → SimH f h → (∀ x, last = some x → ef.testBit x = true) → (∀ x ∈ rds, x.1 ∈ rs) → stepsF ss T f ds rds ck k = some r →
    ∃ S' h' ds' T' f' last' rds' done', runN P gl ca ops bef l ⟨⟨S, m, h, ds⟩, done, last, rds⟩ = some ⟨⟨S', m, h', ds'⟩, done', last', rds'⟩ ∧ SimT T' S' ∧ SimH f' h' ∧ k T' f' ds' rds' = some r := by
  intro l
  induction l with
  | nil => intro done ef rs ss T S f h ds rds last hc hT hh _ _ hr; cases hc; exact ⟨S, h, ds, T, f, last, rds, done, rfl, hT, hh, hr⟩
  | cons i l ih =>
    intro done ef rs ss T S f h ds rds last hc hT hh hlast hrds hr
    unfold compOrdN at hc
    cases ho : ops.toList[i]? with
    | none => rw [ho] at hc; cases hc
    | some o =>
      rw [ho] at hc
      dsimp only at hc
      cases hd : (!Nat.beq (Nat.land (befN bef i) done) (befN bef i) || done.testBit i) with
      | true => rw [hd] at hc; cases hc
      | false =>
        rw [hd] at hc
        simp only [cond_false] at hc
        cases hnw : isNew o with
        | true =>
          rw [hnw] at hc
          simp only [cond_true] at hc
          split at hc
          · rename_i s hs
            split at hc
            · rename_i ss' hss
              cases hc
              have hr : stepF s T f ds rds ck (fun T' f' ds' rds' => stepsF ss' T' f' ds' rds' ck k) = some r := hr
              obtain ⟨S1, h1, ds1, T1, f1, e1, hT1, hh1, hr⟩ := stepN_new (last := last) hn hcs ho hd hnw hs hT hh (fun x hx => hrds x hx) hr
              obtain ⟨S2, h2, ds2, T2, f2, last2, rds2, done2, e2, g1, g2, g3⟩ := ih (last := some i) hss hT1 hh1 (fun x hx => by cases hx; exact bit_self) hrds hr
              exact ⟨S2, h2, ds2, T2, f2, last2, rds2, done2, by simp only [runN, e1, e2], g1, g2, g3⟩
            · cases hc
          · cases hc
        | false =>
        rw [hnw] at hc
        simp only [cond_false] at hc
        have hold : ∀ r, stepN P gl ca ops bef i r = stepR P gl ca ops bef i r := fun r => by unfold stepN; rw [ho]; dsimp only; rw [hnw]; rfl
        split at hc
        · rename_i hc0
          split at hc
          · rename_i s hs
            split at hc
            · rename_i ss' hss
              cases hc
              have hr : stepF s T f ds rds ck (fun T' f' ds' rds' => stepsF ss' T' f' ds' rds' ck k) = some r := hr
              obtain ⟨S1, h1, ds1, T1, f1, last1, rds1, e1, hT1, hh1, hr, hx⟩ := stepR_sim hn hcs ho hd hs hT hh hlast hrds (.inl ⟨hc0, rfl⟩) hr
              rcases hx with ⟨rfl, hx⟩ | ⟨_, _, hx, _⟩
              · obtain ⟨S2, h2, ds2, T2, f2, last2, rds2, done2, e2, g1, g2, g3⟩ := ih hss hT1 hh1 hlast (fun x hxx => (hx x hxx).elim id fun q => by rw [hc0] at q; cases q.2) hr
                exact ⟨S2, h2, ds2, T2, f2, last2, rds2, done2, by simp only [runN, hold, e1, e2], g1, g2, g3⟩
              · exact absurd hc0 hx
            · cases hc
          · cases hc
        · rename_i hc1
          cases he : Nat.beq (Nat.land (befN bef i) ef) ef with
          | false => rw [he] at hc; cases hc
          | true =>
            rw [he] at hc
            simp only [Bool.not_true, cond_false] at hc
            split at hc
            · rename_i c a hra
              split at hc
              · rename_i s hs
                split at hc
                · rename_i ss' hss
                  cases hc
                  have hr : stepF s T f ds rds ck (fun T' f' ds' rds' => stepsF ss' T' f' ds' rds' ck k) = some r := hr
                  obtain ⟨S1, h1, ds1, T1, f1, last1, rds1, e1, hT1, hh1, hr, hx⟩ := stepR_sim hn hcs ho hd hs hT hh hlast hrds (.inr (.inl ⟨hc1, he, c, a, hra, rfl⟩)) hr
                  rcases hx with ⟨rfl, hx⟩ | ⟨_, _, _, hx⟩
                  · obtain ⟨S2, h2, ds2, T2, f2, last2, rds2, done2, e2, g1, g2, g3⟩ := ih hss hT1 hh1 hlast (fun x hxx => (hx x hxx).elim (fun q => by simp [q]) fun q => by simp [q.1]) hr
                    exact ⟨S2, h2, ds2, T2, f2, last2, rds2, done2, by simp only [runN, hold, e1, e2], g1, g2, g3⟩
                  · exact absurd hc1 hx
                · cases hc
              · cases hc
            · cases hc
        · rename_i hc0 hc1
          cases he : Nat.beq (Nat.land (befN bef i) ef) ef with
          | false => rw [he] at hc; cases hc
          | true =>
            rw [he] at hc
            simp only [Bool.not_true, cond_false] at hc
            split at hc
            · rename_i s hs
              split at hc
              · rename_i ss' hss
                cases hc
                have hr : stepF s T f ds rds ck (fun T' f' ds' rds' => stepsF ss' T' f' ds' rds' ck k) = some r := hr
                have hl : ((bif rs.all fun j => (befN bef i).testBit j then FL.no else .wr (befN bef i)) = .no ∧ ∀ j ∈ rs, (befN bef i).testBit j = true) ∨ (bif rs.all fun j => (befN bef i).testBit j then FL.no else .wr (befN bef i)) = .wr (befN bef i) := by
                  cases hall : rs.all fun j => (befN bef i).testBit j with
                  | true => exact .inl ⟨rfl, List.all_eq_true.1 hall⟩
                  | false => exact .inr rfl
                obtain ⟨S1, h1, ds1, T1, f1, last1, rds1, e1, hT1, hh1, hr, hx⟩ := stepR_sim hn hcs ho hd hs hT hh hlast hrds (.inr (.inr ⟨⟨hc0, hc1⟩, he, hl⟩)) hr
                have hl1 : ∀ x, last1 = some x → (ef ||| 2 ^ i).testBit x = true := by
                  intro x hx1
                  rcases hx with ⟨rfl, _⟩ | ⟨rfl, _⟩
                  · exact bit_or (hlast x hx1)
                  · cases hx1; exact bit_self
                have hr1 : ∀ x ∈ rds1, x.1 ∈ rs := by
                  intro x hx1
                  rcases hx with ⟨_, hx⟩ | ⟨_, rfl, _⟩
                  · exact (hx x hx1).elim id fun q => absurd q.2 hc1
                  · exact hrds x hx1
                obtain ⟨S2, h2, ds2, T2, f2, last2, rds2, done2, e2, g1, g2, g3⟩ := ih hss hT1 hh1 hl1 hr1 hr
                exact ⟨S2, h2, ds2, T2, f2, last2, rds2, done2, by simp only [runN, hold, e1, e2], g1, g2, g3⟩
              · cases hc
            · cases hc

end Go.Proofs.YtgfjnnkhlgmbcaaGreat.AI
