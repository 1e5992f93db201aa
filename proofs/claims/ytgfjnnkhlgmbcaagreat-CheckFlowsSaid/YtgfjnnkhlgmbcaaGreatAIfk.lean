/- The abstract interpreter, fast runs: code and calls. -/
import Derived.Test.YtgfjnnkhlgmbcaaGreatAIfi
import Derived.Test.YtgfjnnkhlgmbcaaGreatAIx
namespace Go.Proofs.YtgfjnnkhlgmbcaaGreat.AI
open Go
set_option linter.unusedVariables false
set_option linter.unusedSimpArgs false

variable {P : Program} {gl : Nat → Option Nat} {T : TT} {S : Tr Value} {f : FH} {h : AH} {ck : CallK} {ca : CallA} {r : Value}

theorem clearF_some : ∀ {F : List Tmp} {ps : List (D16 × D16)} {T : TT} {S : Tr Value} {k : TT → O1}, slots F = some ps → SimT T S → clearF ps T k = some r → ∃ T', SimT T' (clearL F S) ∧ k T' = some r := by
  intro F
  induction F with
  | nil => intro ps T S k hc hT hr; cases hc; exact ⟨T, hT, hr⟩
  | cons x F ih =>
    intro ps T S k hc hT hr
    simp only [slots] at hc
    split at hc
    · rename_i p hp
      split at hc
      · rename_i l hl
        cases hc
        obtain ⟨d, e⟩ := p
        have hr : setT d e none T (fun T' => clearF l T' k) = some r := hr
        obtain ⟨T1, h1, h2⟩ := setT_sim hp hT hr
        obtain ⟨T', h3, h4⟩ := ih hl h2 h1
        exact ⟨T', h3, h4⟩
      · cases hc
    · cases hc

theorem regNok_mono {ops : Array Oper} {bef ord : List Nat} {n m : Nat} (hn : n ≤ m) (h : regNok P ops bef ord n = true) : regNok P ops bef ord m = true := by
  unfold regNok at h ⊢
  simp only [Bool.and_eq_true] at h ⊢
  refine ⟨h.1, ?_⟩
  have h2 := h.2
  unfold dstOk at h2 ⊢
  rw [List.all_eq_true] at h2 ⊢
  intro i hi
  have := h2 i hi
  split
  · rename_i o ho
    rw [ho] at this
    dsimp only at this
    cases hno : isNew o with
    | false => rfl
    | true =>
      rw [hno] at this
      simp only [Bool.not_true, Bool.false_or] at this ⊢
      split
      · rename_i d hd
        rw [hd] at this
        simp only [Bool.and_eq_true] at this ⊢
        exact ⟨Nat.ble_eq_true_of_le (Nat.le_trans (Nat.le_of_ble_eq_true this.1) hn), this.2⟩
      · rename_i hd; rw [hd] at this; exact this
  · rfl

theorem reg_sim {n m : Nat} {ops : Array Oper} {ds : DS} {fuel : Nat} {k : KC'} (hn : n ≤ m) (hT : SimT T S) (hh : SimH f h) (hcs : CallSim ck ca) (hr : semC (compReg P gl n ops) ck fuel T f ds k = some r) :
    ∃ S' h' ds' T' f', regX P gl ca ops ⟨S, m, h, ds⟩ = some ⟨S', m, h', ds'⟩ ∧ SimT T' S' ∧ SimH f' h' ∧ k .normal T' f' ds' = some r := by
  unfold compReg at hr
  unfold regX
  dsimp only at hr ⊢
  generalize hbef : (Region.before ops).toList = bef at hr ⊢
  cases hl : linOk P ops bef (orderA P ops bef ops.toList.length 0 (List.range ops.toList.length)) none with
  | true =>
    rw [hl] at hr
    simp only [cond_true] at hr ⊢
    cases hok : regOk P ops bef (orderA P ops bef ops.toList.length 0 (List.range ops.toList.length)) with
    | false => rw [hok] at hr; cases hr
    | true =>
      rw [hok] at hr
      simp only [cond_true] at hr
      cases hc : compOrd P gl n ops.toList bef (orderA P ops bef ops.toList.length 0 (List.range ops.toList.length)) 0 0 [] with
      | none => rw [hc] at hr; cases hr
      | some l =>
        rw [hc] at hr
        have hr : stepsF l T f ds [] ck (fun T' f' ds' _ => k .normal T' f' ds') = some r := hr
        obtain ⟨S', h', ds', T', f', last', rds', done', e1, e2, e3, e4⟩ := ord_sim hn hcs hc hT hh (fun x hx => by cases hx) (fun x hx => by cases hx) (last := none) hr
        refine ⟨S', h', ds', T', f', ?_, e2, e3, e4⟩
        unfold theReg regWith
        rw [hbef, hok]
        simp only [cond_true]
        rw [e1]
  | false =>
    rw [hl] at hr
    simp only [cond_false] at hr ⊢
    generalize orderN P ops bef ops.toList.length 0 (List.range ops.toList.length) = ord at hr ⊢
    cases hok : regNok P ops bef ord n with
    | false => rw [hok] at hr; cases hr
    | true =>
      rw [hok] at hr
      simp only [cond_true] at hr
      cases hc : compOrdN P gl n ops.toList bef ord 0 0 [] with
      | none => rw [hc] at hr; cases hr
      | some l =>
        rw [hc] at hr
        dsimp only at hr
        cases hp : slots (newDs ops.toList) with
        | none => rw [hp] at hr; cases hr
        | some ps =>
          rw [hp] at hr
          have hr : clearF ps T (fun T1 => stepsF l T1 f ds [] ck fun T2 h2 ds2 _ => k .normal T2 h2 ds2) = some r := hr
          obtain ⟨T1, hT1, hr⟩ := clearF_some hp hT hr
          obtain ⟨S2, h2, ds2, T2, f2, last2, rds2, done2, e1, hT2, hh2, hr⟩ := ordN_sim hn hcs hc hT1 hh (fun x hx => by cases hx) (fun x hx => by cases hx) (last := none) hr
          refine ⟨S2, h2, ds2, T2, f2, ?_, hT2, hh2, hr⟩
          unfold regN
          rw [regNok_mono hn hok]
          simp only [cond_true]
          rw [e1]

theorem code_sim {n m : Nat} (hn : n ≤ m) (hcs : CallSim ck ca) (fuel : Nat) : ∀ (c : Code) (T : TT) (S : Tr Value) (f : FH) (h : AH) (ds : DS) (k : KC') (r : Value), SimT T S → SimH f h → semC (compC P gl n c) ck fuel T f ds k = some r →
    ∃ x S' h' ds' T' f', codeA P gl (regX P gl) ca fuel c ⟨S, m, h, ds⟩ = some (x, ⟨S', m, h', ds'⟩) ∧ SimT T' S' ∧ SimH f' h' ∧ k x T' f' ds' = some r := by
  intro c
  induction c with
  | skip => intro T S f h ds k r hT hh hr; exact ⟨.normal, S, h, ds, T, f, rfl, hT, hh, hr⟩
  | label l => intro T S f h ds k r hT hh hr; exact ⟨.normal, S, h, ds, T, f, rfl, hT, hh, hr⟩
  | exit id => intro T S f h ds k r hT hh hr; exact ⟨.exit id, S, h, ds, T, f, rfl, hT, hh, hr⟩
  | ret => intro T S f h ds k r hT hh hr; exact ⟨.ret, S, h, ds, T, f, rfl, hT, hh, hr⟩
  | region id ops drawn =>
    intro T S f h ds k r hT hh hr
    cases drawn with
    | false =>
      simp only [compC] at hr
      cases hc : compPlain P gl n ops.toList ops.toList with
      | none => rw [hc] at hr; cases hr
      | some l =>
        rw [hc] at hr
        have hr : stepsF l T f ds [] ck (fun T' f' ds' _ => k .normal T' f' ds') = some r := hr
        obtain ⟨S', h', ds', T', f', e1, e2, e3, e4⟩ := steps_plain hn hcs hc hT hh hr
        exact ⟨.normal, S', h', ds', T', f', by simp only [codeA, e1], e2, e3, e4⟩
    | true =>
      have hr : semC (compReg P gl n ops) ck fuel T f ds k = some r := hr
      obtain ⟨S', h', ds', T', f', e1, e2, e3, e4⟩ := reg_sim hn hT hh hcs hr
      exact ⟨.normal, S', h', ds', T', f', by simp only [codeA, e1], e2, e3, e4⟩
  | seq a b iha ihb =>
    intro T S f h ds k r hT hh hr
    have hr : semC (compC P gl n a) ck fuel T f ds (fun x T' h' ds' => XA.rec (motive := fun _ => O1) (semC (compC P gl n b) ck fuel T' h' ds' k) (fun id => k (.exit id) T' h' ds') (k .ret T' h' ds') x) = some r := hr
    obtain ⟨x, S1, h1, ds1, T1, f1, e1, hT1, hh1, hr⟩ := iha _ _ _ _ _ _ _ hT hh hr
    cases x with
    | normal =>
      obtain ⟨x, S2, h2, ds2, T2, f2, e2, hT2, hh2, hr⟩ := ihb _ _ _ _ _ _ _ hT1 hh1 hr
      exact ⟨x, S2, h2, ds2, T2, f2, by simp only [codeA, e1, e2], hT2, hh2, hr⟩
    | exit id => exact ⟨.exit id, S1, h1, ds1, T1, f1, by simp only [codeA, e1], hT1, hh1, hr⟩
    | ret => exact ⟨.ret, S1, h1, ds1, T1, f1, by simp only [codeA, e1], hT1, hh1, hr⟩
  | cond c t e iht ihe =>
    intro T S f h ds k r hT hh hr
    simp only [compC] at hr
    cases hc : compArg gl c with
    | none => rw [hc] at hr; cases hr
    | some a =>
      rw [hc] at hr
      have hr : evF a T (fun v => boolK v (semC (compC P gl n t) ck fuel T f ds k) (semC (compC P gl n e) ck fuel T f ds k)) = some r := hr
      obtain ⟨v, hv, hr⟩ := evF_some hc hT hr
      rcases boolK_some hr with ⟨rfl, hr⟩ | ⟨rfl, hr⟩
      · obtain ⟨x, S1, h1, ds1, T1, f1, e1, hT1, hh1, hr⟩ := iht _ _ _ _ _ _ _ hT hh hr
        exact ⟨x, S1, h1, ds1, T1, f1, by simp only [codeA, hv, e1], hT1, hh1, hr⟩
      · obtain ⟨x, S1, h1, ds1, T1, f1, e1, hT1, hh1, hr⟩ := ihe _ _ _ _ _ _ _ hT hh hr
        exact ⟨x, S1, h1, ds1, T1, f1, by simp only [codeA, hv, e1], hT1, hh1, hr⟩
  | block id c ih =>
    intro T S f h ds k r hT hh hr
    have hr : semC (compC P gl n c) ck fuel T f ds (fun x T' h' ds' => XA.rec (motive := fun _ => O1) (k .normal T' h' ds') (fun i => Bool.rec (motive := fun _ => O1) (k (.exit i) T' h' ds') (k .normal T' h' ds') (Nat.beq i id)) (k .ret T' h' ds') x) = some r := hr
    obtain ⟨x, S1, h1, ds1, T1, f1, e1, hT1, hh1, hr⟩ := ih _ _ _ _ _ _ _ hT hh hr
    cases x with
    | normal => exact ⟨.normal, S1, h1, ds1, T1, f1, by simp only [codeA, e1], hT1, hh1, hr⟩
    | exit i =>
      have hr : Bool.rec (motive := fun _ => O1) (k (.exit i) T1 f1 ds1) (k .normal T1 f1 ds1) (Nat.beq i id) = some r := hr
      cases hb : Nat.beq i id with
      | true => rw [hb] at hr; exact ⟨.normal, S1, h1, ds1, T1, f1, by simp only [codeA, e1, hb, cond_true], hT1, hh1, hr⟩
      | false => rw [hb] at hr; exact ⟨.exit i, S1, h1, ds1, T1, f1, by simp only [codeA, e1, hb, cond_false], hT1, hh1, hr⟩
    | ret => exact ⟨.ret, S1, h1, ds1, T1, f1, by simp only [codeA, e1], hT1, hh1, hr⟩
  | loop c ih =>
    intro T S f h ds k r hT hh hr
    have hr : itF (semC (compC P gl n c) ck fuel) fuel T f ds k = some r := hr
    have key : ∀ (j : Nat) (T : TT) (S : Tr Value) (f : FH) (h : AH) (ds : DS), SimT T S → SimH f h → itF (semC (compC P gl n c) ck fuel) j T f ds k = some r →
        ∃ x S' h' ds' T' f', iterA (fun σ => codeA P gl (regX P gl) ca fuel c σ) j ⟨S, m, h, ds⟩ = some (x, ⟨S', m, h', ds'⟩) ∧ SimT T' S' ∧ SimH f' h' ∧ k x T' f' ds' = some r := by
      intro j
      induction j with
      | zero => intro T S f h ds _ _ hr; cases hr
      | succ j ihj =>
        intro T S f h ds hT hh hr
        have hr : semC (compC P gl n c) ck fuel T f ds (fun x T' h' ds' => XA.rec (motive := fun _ => O1) (itF (semC (compC P gl n c) ck fuel) j T' h' ds' k) (fun id => k (.exit id) T' h' ds') (k .ret T' h' ds') x) = some r := hr
        obtain ⟨x, S1, h1, ds1, T1, f1, e1, hT1, hh1, hr⟩ := ih _ _ _ _ _ _ _ hT hh hr
        cases x with
        | normal =>
          obtain ⟨x, S2, h2, ds2, T2, f2, e2, hT2, hh2, hr⟩ := ihj _ _ _ _ _ hT1 hh1 hr
          exact ⟨x, S2, h2, ds2, T2, f2, by simp only [iterA, e1, e2], hT2, hh2, hr⟩
        | exit id => exact ⟨.exit id, S1, h1, ds1, T1, f1, by simp only [iterA, e1], hT1, hh1, hr⟩
        | ret => exact ⟨.ret, S1, h1, ds1, T1, f1, by simp only [iterA, e1], hT1, hh1, hr⟩
    obtain ⟨x, S', h', ds', T', f', e1, e2, e3, e4⟩ := key fuel T S f h ds hT hh hr
    exact ⟨x, S', h', ds', T', f', by simp only [codeA, e1], e2, e3, e4⟩
  | _ => intro T S f h ds k r hT hh hr; cases hr

theorem argsF_some {k : TT → O1} : ∀ (len : Nat) {i : Nat} {l : List Value} {ps : List (D16 × D16)} {T : TT} {S : Tr Value}, slots (List.range' i len) = some ps → SimT T S → argsF ps l T k = some r → ∃ T', SimT T' (argsT i l S) ∧ k T' = some r := by
  intro len
  induction len with
  | zero =>
    intro i l ps T S hc hT hr
    cases hc
    cases l with
    | nil => exact ⟨T, hT, hr⟩
    | cons v l => cases hr
  | succ len ih =>
    intro i l ps T S hc hT hr
    rw [List.range'_succ] at hc
    simp only [slots] at hc
    split at hc
    · rename_i p hp
      split at hc
      · rename_i ps' hps
        cases hc
        cases l with
        | nil => exact ⟨T, hT, hr⟩
        | cons v l =>
          obtain ⟨d, e⟩ := p
          have hr : setT d e (some v) T (fun T' => argsF ps' l T' k) = some r := hr
          obtain ⟨T1, hr, hT1⟩ := setT_sim hp hT hr
          have q := ih hps hT1 hr
          exact q
      · cases hc
    · cases hc

theorem resF_some {k : List Value → O1} : ∀ {rs : List ResultVar} {l : List FRes} {k : List Value → O1}, compRes P rs = some l → SimT T S → SimH f h → resF l T f k = some r → ∃ vs, resA P S h rs = some vs ∧ k vs = some r := by
  intro rs
  induction rs with
  | nil => intro l k hc hT hh hr; cases hc; exact ⟨[], rfl, hr⟩
  | cons x rs ih =>
    intro l k hc hT hh hr
    cases x with
    | tmp t =>
      simp only [compRes] at hc
      split at hc
      · rename_i l' hl
        split at hc
        · rename_i d e hs
          cases hc
          obtain ⟨ht, rfl, rfl⟩ := slot_some hs
          have hr : getT (d16 (t / 16)) (d16 (t % 16)) T (fun v => resF l' T f fun vs => k (v :: vs)) = some r := hr
          obtain ⟨v, h1, hr⟩ := getT_some hr
          obtain ⟨vs, h2, hr⟩ := ih hl hT hh hr
          exact ⟨v :: vs, by simp only [resA, hT t v ht h1, h2], hr⟩
        · cases hc
      · cases hc
    | cell a t =>
      simp only [compRes] at hc
      split at hc
      · rename_i l' hl
        split at hc
        · rename_i hagg
          split at hc
          · rename_i n hn
            split at hc
            · rename_i d e hs
              cases hc
              obtain ⟨ht, rfl, rfl⟩ := slot_some hs
              have hr : getT (d16 (a / 16)) (d16 (a % 16)) T (fun v => ptrK v fun b off => gH b f.1 fun bl => rowK bl fun _ _ cs => dropK off cs fun l => takeK n l fun l1 => resF l' T f fun vs => k (.agg ⟨l1⟩ :: vs)) = some r := hr
              obtain ⟨v, h1, hr⟩ := getT_some hr
              have q := ptrK_some hr
              clear hr
              obtain ⟨b, off, rfl, hr⟩ := q
              obtain ⟨x', e1, hr⟩ := gH_some hr
              have q := rowK_some hr
              clear hr
              obtain ⟨ro, z, cs, rfl, hr⟩ := q
              obtain ⟨e2, hr⟩ := dropK_some hr
              obtain ⟨e3, hr⟩ := takeK_some hr
              rw [List.length_drop] at e3
              obtain ⟨vs, h2, hr⟩ := ih hl hT hh hr
              refine ⟨_ :: vs, ?_, hr⟩
              simp only [resA, hT a _ ht h1, loadA, hh.2 b _ e1, hagg, hn, Nat.ble_eq_true_of_le (show off + n ≤ cs.length by omega), cond_true, h2]
            · cases hc
          · cases hc
        · rename_i hagg
          split at hc
          · rename_i d e hs
            cases hc
            obtain ⟨ht, rfl, rfl⟩ := slot_some hs
            have hr : getT (d16 (a / 16)) (d16 (a % 16)) T (fun v => ptrK v fun b off => gH b f.1 fun bl => rowK bl fun _ _ cs => nthK cs off fun x => condK (Nat.beq (knd x) (kcOf P t) || Nat.beq (kcOf P t) 10) (resF l' T f fun vs => k (x :: vs))) = some r := hr
            obtain ⟨v, h1, hr⟩ := getT_some hr
            have q := ptrK_some hr
            clear hr
            obtain ⟨b, off, rfl, hr⟩ := q
            obtain ⟨x', e1, hr⟩ := gH_some hr
            have q := rowK_some hr
            clear hr
            obtain ⟨ro, z, cs, rfl, hr⟩ := q
            obtain ⟨u, e2, hr⟩ := nthK_some hr
            obtain ⟨e3, hr⟩ := condK_some hr
            obtain ⟨vs, h2, hr⟩ := ih hl hT hh hr
            refine ⟨_ :: vs, ?_, hr⟩
            simp only [resA, hT a _ ht h1, loadA, hh.2 b _ e1, hagg, cellA, e2, knd_ok e3, cond_true, h2]
          · cases hc
        · cases hc
      · cases hc

theorem dsF_some (hcs : CallSim ck ca) : ∀ {ds : DS} {f : FH} {h : AH} {k : FH → O1}, SimH f h → dsF ck ds f k = some r → ∃ h' f', runDs ca ds h = some h' ∧ SimH f' h' ∧ k f' = some r := by
  intro ds
  induction ds with
  | nil => intro f h k hh hr; exact ⟨h, f, rfl, hh, hr⟩
  | cons x ds ih =>
    intro f h k hh hr
    obtain ⟨g, ar⟩ := x
    have hr : ck g ar f (fun _ f' => dsF ck ds f' k) = some r := hr
    obtain ⟨v, h1, f1, e1, hh1, hr⟩ := hcs g ar f h _ r hh hr
    obtain ⟨h2, f2, e2, hh2, hr⟩ := ih hh1 hr
    exact ⟨h2, f2, by simp only [runDs, e1, e2], hh2, hr⟩

theorem getF_some : ∀ {t : Tr FFn} {i : Nat} {k : FFn → O1}, getF t i k = some r → ∃ fn, t.get i = some fn ∧ k fn = some r := by
  intro t
  induction t with
  | nil => intro i k hr; cases hr
  | node v l rr ihl ihr =>
    intro i k hr
    cases i with
    | zero =>
      have hr : Option.rec (motive := fun _ => O1) none k v = some r := hr
      cases v with
      | none => cases hr
      | some fn => exact ⟨fn, rfl, hr⟩
    | succ j =>
      have hr : Bool.rec (motive := fun _ => O1) (getF rr (Nat.div j 2) k) (getF l (Nat.div j 2) k) (Nat.beq (Nat.mod j 2) 0) = some r := hr
      cases hb : Nat.beq (j % 2) 0 with
      | true =>
        have hb' : Nat.beq (Nat.mod j 2) 0 = true := hb
        rw [hb'] at hr
        obtain ⟨fn, h1, h2⟩ := ihl hr
        exact ⟨fn, by simp only [Tr.get, hb, cond_true]; exact h1, h2⟩
      | false =>
        have hb' : Nat.beq (Nat.mod j 2) 0 = false := hb
        rw [hb'] at hr
        obtain ⟨fn, h1, h2⟩ := ihr hr
        exact ⟨fn, by simp only [Tr.get, hb, cond_false]; exact h1, h2⟩

/-- A told function of the fast form: what it says the told function says. -/
def HpSim (t : List Value → FH → KV → O1) (Tg : List Value → AH → Option (Value × AH)) : Prop := ∀ (args : List Value) (f : FH) (h : AH) (k : KV) (r : Value), SimH f h → t args f k = some r → ∃ v h' f', Tg args h = some (v, h') ∧ SimH f' h' ∧ k v f' = some r
/-- A table of functions, each from the program's text, or told. -/
def TabIs (P : Program) (gl : Nat → Option Nat) (T : CallA) (tab : Tr FFn) : Prop := ∀ (g : Nat) (fn : FFn), tab.get g = some fn →
  compFn P gl g = some fn ∨ (∃ F : List Value → Option Value, fn = .nat F ∧ ∀ args h v, F args = some v → T g args h = some (v, h)) ∨ ∃ t, fn = .hp t ∧ HpSim t (T g)

theorem mkTab_is {T : CallA} : ∀ (l : List Nat), TabIs P gl T (mkTab P gl l) := by
  intro l
  induction l with
  | nil => intro g fn h; cases h
  | cons i l ih =>
    intro g fn h
    have h : ((mkTab P gl l).set i (compFn P gl i)).get g = some fn := h
    rw [Tr.get_set] at h
    split at h
    · rename_i e; rw [e]; exact .inl h
    · exact ih g fn h

theorem natTab_is {F : FuncId → List Value → Option Value} {T : CallA} (hT : ∀ g args h v, F g args = some v → T g args h = some (v, h)) {t : Tr FFn} (ht : TabIs P gl T t) : ∀ (l : List Nat), TabIs P gl T (natTab F l t) := by
  intro l
  induction l with
  | nil => exact ht
  | cons i l ih =>
    intro g fn h
    have h : ((natTab F l t).set i (some (.nat (F i)))).get g = some fn := h
    rw [Tr.get_set] at h
    split at h
    · rename_i e; cases h; rw [e]; exact .inr (.inl ⟨_, rfl, fun args h v hv => hT i args h v hv⟩)
    · exact ih g fn h

theorem hpTab_is {T : CallA} {t : Tr FFn} (ht : TabIs P gl T t) {i : Nat} {u : List Value → FH → KV → O1} (hu : HpSim u (T i)) : TabIs P gl T (t.set i (some (.hp u))) := by
  intro g fn h
  rw [Tr.get_set] at h
  split at h
  · rename_i e; cases h; rw [e]; exact .inr (.inr ⟨u, rfl, hu⟩)
  · exact ht g fn h

theorem compFn_mk {g : Nat} {fn : FFn} (h : compFn P gl g = some fn) : ∃ f c res ps, P.funcs[g]? = some f ∧ f.body = some c ∧ (f.name == "runtime.NumGoroutine") = false ∧ compRes P f.results.toList = some res ∧ slots (List.range f.ntmps) = some ps ∧ fn = .mk ps (compC P gl f.ntmps c) res := by
  unfold compFn at h
  split at h
  · cases h
  · rename_i f hfn
    split at h
    · cases h
    · rename_i c hb
      cases hname : f.name == "runtime.NumGoroutine" with
      | true => rw [hname] at h; cases h
      | false =>
        rw [hname] at h
        simp only [cond_false] at h
        split at h
        · rename_i res hres
          split at h
          · rename_i ps hps; cases h; exact ⟨f, c, res, ps, hfn, hb, hname, hres, hps, rfl⟩
          · cases h
        · cases h

theorem dsOk_eq (d : Bool) (ds : DS) : dsOk d ds = !(d && !ds.isEmpty) := by cases d <;> cases ds <;> rfl

theorem tupF_eq (l : List Value) : tupF l = tupA l := by
  cases l with
  | nil => rfl
  | cons a l => cases l <;> rfl

/-- A call, where some functions are told. -/
def callN (P : Program) (gl : Nat → Option Nat) (F : CallA) : Nat → Bool → CallA
  | 0, _, _, _, _ => none
  | n + 1, d, g, args, h =>
    match (bif d then none else F g args h) with
    | some v => some v
    | none =>
      match P.funcs[g]? with
      | none => none
      | some fn => match fn.body with
        | none => none
        | some c => bif fn.name == "runtime.NumGoroutine" then none else
          match codeA P gl (regX P gl) (callN P gl F n false) n c ⟨argsT 0 args .nil, args.length + (fn.ntmps - args.length), h, []⟩ with
          | some (x, σ) => match x with
            | .exit _ => none
            | _ => bif d && !σ.ds.isEmpty then none else match runDs (callN P gl F n true) σ.ds σ.h with
              | none => none
              | some h' => match resA P σ.T h' fn.results.toList with
                | some vs => some (tupA vs, h')
                | none => none
          | none => none

theorem call_sim {F : CallA} {tab : Tr FFn} (ht : TabIs P gl F tab) (hF : ∀ g fn, tab.get g = some fn → compFn P gl g = some fn → ∀ args h, F g args h = none) : ∀ (n : Nat) (d : Bool), CallSim (callF tab n d) (callN P gl F n d) := by
  intro n
  induction n with
  | zero => intro d g args f h k r _ hr; cases hr
  | succ n ih =>
    intro d g args f h k r hh hr
    have hr : getF tab g (fun fn => FFn.rec (motive := fun _ => O1) (fun ps c res => argsF ps args TT.nil fun T => semC c (callF tab n false) n T f [] fun x T' h' ds =>
      XA.rec (motive := fun _ => O1) (endF (callF tab n true) d res T' h' ds k) (fun _ => none) (endF (callF tab n true) d res T' h' ds k) x)
      (fun F => Bool.rec (motive := fun _ => O1) (Option.rec (motive := fun _ => O1) none (fun v => splitB v fun v => k v f) (F args)) none d)
      (fun F => Bool.rec (motive := fun _ => O1) (F args f k) none d) fn) = some r := hr
    obtain ⟨ffn, hg, hr⟩ := getF_some hr
    rcases ht g ffn hg with hc | ⟨F0, rfl, hF0⟩ | ⟨u, rfl, hu⟩
    · have hnone := hF g ffn hg hc args h
      obtain ⟨fn, c, res, ps, hfn, hb, hname, hres, hps, rfl⟩ := compFn_mk hc
      have hr : argsF ps args TT.nil (fun T => semC (compC P gl fn.ntmps c) (callF tab n false) n T f [] fun x T' h' ds =>
        XA.rec (motive := fun _ => O1) (endF (callF tab n true) d res T' h' ds k) (fun _ => none) (endF (callF tab n true) d res T' h' ds k) x) = some r := hr
      rw [List.range_eq_range'] at hps
      obtain ⟨T1, hT1, hr⟩ := argsF_some fn.ntmps hps (SimT.nil (S := .nil)) hr
      obtain ⟨x, S2, h2, ds2, T2, f2, e1, hT2, hh2, hr⟩ := code_sim (m := args.length + (fn.ntmps - args.length)) (by omega) (ih false) n c T1 _ f h [] _ r hT1 hh hr
      have fin : endF (callF tab n true) d res T2 f2 ds2 k = some r → ∃ v h' f', (bif d && !ds2.isEmpty then none else match runDs (callN P gl F n true) ds2 h2 with
          | none => none
          | some h' => match resA P S2 h' fn.results.toList with
            | some vs => some (tupA vs, h')
            | none => none) = some (v, h') ∧ SimH f' h' ∧ k v f' = some r := by
        intro hr
        unfold endF at hr
        obtain ⟨q1, hr⟩ := condK_some hr
        rw [dsOk_eq] at q1
        have q1 : (d && !ds2.isEmpty) = false := by
          cases hq : (d && !ds2.isEmpty) with
          | false => rfl
          | true => rw [hq] at q1; cases q1
        obtain ⟨h3, f3, e2, hh3, hr⟩ := dsF_some (ih true) hh2 hr
        obtain ⟨vs, e3, hr⟩ := resF_some (k := fun _ => none) hres hT2 hh3 hr
        rw [tupF_eq] at hr
        refine ⟨_, h3, f3, ?_, hh3, hr⟩
        rw [q1]
        simp only [cond_false, e2, e3]
      have main : (∀ id, x ≠ .exit id) ∧ ∃ v h' f', (bif d && !ds2.isEmpty then none else match runDs (callN P gl F n true) ds2 h2 with
          | none => none
          | some h' => match resA P S2 h' fn.results.toList with
            | some vs => some (tupA vs, h')
            | none => none) = some (v, h') ∧ SimH f' h' ∧ k v f' = some r := by
        cases x with
        | normal => exact ⟨(fun id e => by cases e), fin hr⟩
        | exit id => cases hr
        | ret => exact ⟨(fun id e => by cases e), fin hr⟩
      obtain ⟨hx, v, h', f', e2, hh', hr⟩ := main
      refine ⟨v, h', f', ?_, hh', hr⟩
      have hn0 : (bif d then none else F g args h) = none := by rw [hnone]; cases d <;> rfl
      simp only [callN, hn0, hfn, hb, hname, cond_false, e1]
      cases x with
      | normal => exact e2
      | exit id => exact absurd rfl (hx id)
      | ret => exact e2
    · cases d with
      | true => cases hr
      | false =>
        have hr : Option.rec (motive := fun _ => O1) none (fun v => splitB v fun v => k v f) (F0 args) = some r := hr
        cases hv : F0 args with
        | none => rw [hv] at hr; cases hr
        | some v =>
          rw [hv] at hr
          have hr : splitB v (fun v => k v f) = some r := hr
          rw [splitB_eq] at hr
          exact ⟨v, h, f, by simp only [callN, cond_false, hF0 args h v hv], hh, hr⟩
    · cases d with
      | true => cases hr
      | false =>
        have hr : u args f k = some r := hr
        obtain ⟨v, h', f', e1, hh', hr⟩ := hu args f h k r hh hr
        exact ⟨v, h', f', by simp only [callN, cond_false, e1], hh', hr⟩

/-- A closed law, by a fast run. -/
def okO : O1 → Bool
  | some (.bool true) => true
  | _ => false

theorem okO_some {r : O1} (h : okO r = true) : r = some (.bool true) := by
  unfold okO at h
  split at h
  · rfl
  · cases h

theorem eH_sim : SimH ⟨eH, 0⟩ h0 := ⟨rfl, fun b x hx => by
  have hx : QH.get eH b = some x := hx
  rw [eH_get] at hx; cases hx⟩

end Go.Proofs.YtgfjnnkhlgmbcaaGreat.AI
namespace Go.Proofs.YtgfjnnkhlgmbcaaGreat.AI
open Go Go.RowKit
set_option linter.unusedVariables false
set_option linter.unusedSimpArgs false

variable {P : Program} {gl : Nat → Option Nat} {F : CallA}

theorem callN_ok (hm : P.follows .mixedOrders = true) (hF : CallOK P gl F) : ∀ n, CallOK P gl (callN P gl F n false) ∧ CallDOK P gl (callN P gl F n true) := by
  have hreg : RegOK P gl (regX P gl) := regX_ok hm
  intro n
  induction n with
  | zero => exact ⟨(fun g ar h v h' hc => by cases hc), (fun g ar h v h' hc => by cases hc)⟩
  | succ n ih =>
    have open_ : ∀ {d : Bool} {g : FuncId} {ar : List Value} {h h' : AH} {v : Value}, callN P gl F (n + 1) d g ar h = some (v, h') →
        (d = false ∧ F g ar h = some (v, h')) ∨ ∃ fn c x σ hm vs, P.funcs[g]? = some fn ∧ fn.body = some c ∧ (fn.name == "runtime.NumGoroutine") = false ∧
          codeA P gl (regX P gl) (callN P gl F n false) n c ⟨argsT 0 ar .nil, ar.length + (fn.ntmps - ar.length), h, []⟩ = some (x, σ) ∧ (∀ id, x ≠ .exit id) ∧ (d = true → σ.ds = []) ∧
          runDs (callN P gl F n true) σ.ds σ.h = some hm ∧ resA P σ.T hm fn.results.toList = some vs ∧ v = tupA vs ∧ h' = hm := by
      intro d g ar h h' v hc
      simp only [callN] at hc
      split at hc
      · rename_i v1 hv
        cases d with
        | true => cases hv
        | false => cases hc; exact .inl ⟨rfl, hv⟩
      · refine .inr ?_
        split at hc
        · cases hc
        · rename_i fn hfn
          split at hc
          · cases hc
          · rename_i c hb
            cases hname : (fn.name == "runtime.NumGoroutine") with
            | true => rw [hname] at hc; cases hc
            | false =>
              rw [hname] at hc
              simp only [cond_false] at hc
              split at hc
              · rename_i x σ hcode
                split at hc
                · cases hc
                · rename_i hx
                  cases hd : (d && !σ.ds.isEmpty) with
                  | true => rw [hd] at hc; cases hc
                  | false =>
                    rw [hd] at hc
                    simp only [cond_false] at hc
                    split at hc
                    · cases hc
                    · rename_i hm hrun
                      split at hc
                      · rename_i vs hres
                        cases hc
                        refine ⟨fn, c, x, σ, _, vs, hfn, hb, hname, hcode, fun id e => hx id e, fun e => ?_, hrun, hres, rfl, rfl⟩
                        subst e
                        cases hds : σ.ds with
                        | nil => rfl
                        | cons a b => rw [hds] at hd; cases hd
                      · cases hc
              · cases hc
    refine ⟨fun g ar h v h' hc => ?_, fun g ar h v h' hc => ?_⟩
    · rcases open_ hc with ⟨_, hv⟩ | ⟨fn, c, x, σ, hm, vs, hfn, hb, hname, hcode, hx, _, hrun, hres, rfl, rfl⟩
      · exact hF g ar h v h' hv
      refine ⟨fun args w => callFunc_enter hfn hname hb args w, fun μ w args hh hr => ?_⟩
      refine calls_of_wp_defers hfn hb ?_
      have hs := enter_rel hh hr fn.ntmps
      refine wp_mono (codeA_ok hreg ih.1 n c _ x σ hcode μ _ w hs) ?_
      rintro e a1 w1 ⟨rfl, μ1, hs1, hf1⟩
      have key : Leaves P fn a1.tmps (fun e w' => ∃ c μ', e = .returned c ∧ HRel gl μ' h' w' ∧ Fr μ h w μ' h' w' ∧ VRel μ' h'.next (tupA vs) c) a1.defers .returning w1 := by
        refine leaves_ok ih.2 σ.ds a1.defers μ1 σ.h h' w1 hs1.ds hrun hs1.tmps hs1.heap fun w' μ' hT' hh' hf' => ?_
        obtain ⟨c, e1, e2⟩ := results_run (P := P) hT' hh' hres
        exact ⟨c, e1, c, μ', rfl, hh', hf1.trans hf', e2⟩
      cases x with
      | normal => exact key
      | ret => exact key
      | exit id => exact absurd rfl (hx id)
    · rcases open_ hc with ⟨hd, _⟩ | ⟨fn, c, x, σ, hm, vs, hfn, hb, hname, hcode, hx, hds, hrun, hres, rfl, rfl⟩
      · cases hd
      refine ⟨fun args w => callFunc_enter hfn hname hb args w, fun μ w args u hh hr => ?_⟩
      refine callsD_of_wp hfn hb (R := fun e w' => ∃ c μ', e = .returned c ∧ HRel gl μ' h' w' ∧ Fr μ h w μ' h' w' ∧ VRel μ' h'.next (tupA vs) c) ?_
      have hs := enter_rel hh hr fn.ntmps
      refine wp_mono (codeA_ok hreg ih.1 n c _ x σ hcode μ _ w hs) ?_
      rintro e a1 w1 ⟨rfl, μ1, hs1, hf1⟩
      have h0 := hds rfl
      have hd1 : a1.defers = [] := by
        have := hs1.ds
        rw [h0] at this
        exact this.nilInv
      rw [h0] at hrun
      cases hrun
      obtain ⟨c, e1, e2⟩ := results_run (P := P) hs1.tmps hs1.heap hres
      have key : a1.defers = [] ∧ ∃ v, (results fn a1.tmps).run P w1 = .ok v w1 ∧ ∃ c μ', Ending.returned v = .returned c ∧ HRel gl μ' σ.h w1 ∧ Fr μ h w μ' σ.h w1 ∧ VRel μ' σ.h.next (tupA vs) c :=
        ⟨hd1, c, e1, c, μ1, rfl, hs1.heap, hf1, e2⟩
      cases x with
      | normal => exact key
      | ret => exact key
      | exit id => exact absurd rfl (hx id)

theorem natTab_get {F : FuncId → List Value → Option Value} {t : Tr FFn} : ∀ {l : List Nat} {g : Nat}, (g ∈ l → (natTab F l t).get g = some (.nat (F g))) ∧ (g ∉ l → (natTab F l t).get g = t.get g) := by
  intro l
  induction l with
  | nil => intro g; exact ⟨fun h => by simp at h, fun _ => rfl⟩
  | cons i l ih =>
    intro g
    have e : (natTab F (i :: l) t).get g = if g = i then some (.nat (F i)) else (natTab F l t).get g := Tr.get_set _ _ _ _
    rw [e]
    by_cases hg : g = i
    · rw [if_pos hg, hg]
      exact ⟨fun _ => rfl, fun h => absurd (by simp) h⟩
    · rw [if_neg hg]
      refine ⟨fun h => ih.1 ?_, fun h => ih.2 fun h2 => h (by simp [h2])⟩
      rcases List.mem_cons.1 h with h | h
      · exact absurd h hg
      · exact h

/-- What a fast run tells of a call, where functions of the heap are told too. -/
theorem fast_callsT (hm : P.follows .mixedOrders = true) {T : CallA} (hT : CallOK P gl0 T) {tab : Tr FFn} (ht : TabIs P gl0 T tab) (hTn : ∀ g fn, tab.get g = some fn → compFn P gl0 g = some fn → ∀ args h, T g args h = none) {n : Nat} {g : FuncId} {args : List Value} {v : Value}
    (hr : callF tab n false g args ⟨eH, 0⟩ (fun v _ => some v) = some v) (hp : args.all plain1 = true) (hv : plainV v = true) (w : World) :
    Calls P g ⟨args⟩ w fun e w' => e = .returned v ∧ Below w.heap.size w w' := by
  obtain ⟨v', h', f', e1, _, e2⟩ := call_sim ht hTn n false g args _ _ _ _ eH_sim hr
  cases e2
  refine ((callN_ok hm hT n).1 g args h0 _ h' e1 |>.2 (mu0 w) w ⟨args⟩ (.none w) (plain_list hp)).mono ?_
  rintro e w' ⟨c, μ', rfl, g1, g2, g3⟩
  exact ⟨by rw [g3.plainV_eq hv], g2.below fun i b h => (by simp [h0, AH.get, Tr.get_nil] at h)⟩

/-- What a fast run tells of a call. -/
theorem fast_calls {F : FuncId → List Value → Option Value} (hm : P.follows .mixedOrders = true) (hF : TabOK P F) {nats l : List Nat} (hFn : ∀ g, g ∉ nats → ∀ args, F g args = none) {n : Nat} {g : FuncId} {args : List Value} {v : Value}
    (hr : callF (natTab F nats (mkTab P gl0 l)) n false g args ⟨eH, 0⟩ (fun v _ => some v) = some v) (hp : args.all plain1 = true) (hv : plainV v = true) (w : World) :
    Calls P g ⟨args⟩ w fun e w' => e = .returned v ∧ Below w.heap.size w w' := by
  have ht : TabIs P gl0 (sumA F) (natTab F nats (mkTab P gl0 l)) := natTab_is (fun g args h v hv => by unfold sumA; rw [hv]) (mkTab_is l) nats
  refine fast_callsT hm (tab_ok hF) ht (fun g fn h1 h2 args h => ?_) hr hp hv w
  unfold sumA
  rw [hFn g (fun hg => ?_) args]
  rw [natTab_get.1 hg] at h1
  cases h1
  obtain ⟨_, _, _, _, _, _, _, _, _, e⟩ := compFn_mk h2
  cases e

end Go.Proofs.YtgfjnnkhlgmbcaaGreat.AI
