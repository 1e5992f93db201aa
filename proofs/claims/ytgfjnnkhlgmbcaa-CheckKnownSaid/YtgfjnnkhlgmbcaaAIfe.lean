/- The abstract interpreter, fast runs: operations. -/
import Derived.Test.YtgfjnnkhlgmbcaaAIfd
namespace Go.Proofs.Ytgfjnnkhlgmbcaa.AI
open Go
set_option linter.unusedVariables false
set_option linter.unusedSimpArgs false

variable {P : Program} {gl : Nat → Option Nat} {T : TT} {S : Tr Value} {f : FH} {h : AH} {ck : CallK} {ca : CallA} {r : Value}

theorem evF_some {x : Operand} {a : FArg} {k : Value → O1} (hc : compArg gl x = some a) (hT : SimT T S) (hr : evF a T k = some r) : ∃ v, evA gl S x = some v ∧ k v = some r := by
  cases x with
  | tmp t =>
    simp only [compArg] at hc
    cases hb : Nat.blt t 256 with
    | false => rw [hb] at hc; cases hc
    | true =>
      rw [hb] at hc
      cases hc
      have hr : getT (d16 (t / 16)) (d16 (t % 16)) T k = some r := hr
      obtain ⟨v, h1, h2⟩ := getT_some hr
      exact ⟨v, hT t v (Nat.le_of_ble_eq_true hb) h1, h2⟩
  | const v =>
    simp only [compArg] at hc
    cases hb : plainV v with
    | false => rw [hb] at hc; cases hc
    | true =>
      rw [hb] at hc
      cases hc
      exact ⟨v, by simp only [evA, hb, cond_true], hr⟩
  | global g =>
    simp only [compArg] at hc
    split at hc
    · rename_i id hg
      cases hc
      exact ⟨_, by simp only [evA, hg, Option.map_some], hr⟩
    · cases hc
  | func g => cases hc; exact ⟨_, rfl, hr⟩

theorem evFL_some : ∀ {xs : List Operand} {as : List FArg} {k : List Value → O1}, compArgs gl xs = some as → SimT T S → evFL as T k = some r → ∃ vs, evL (evA gl S) xs = some vs ∧ k vs = some r := by
  intro xs
  induction xs with
  | nil => intro as k hc hT hr; cases hc; exact ⟨[], rfl, hr⟩
  | cons x xs ih =>
    intro as k hc hT hr
    simp only [compArgs] at hc
    split at hc
    · rename_i a ha
      split at hc
      · rename_i l hl
        cases hc
        have hr : evF a T (fun v => evFL l T fun vs => k (v :: vs)) = some r := hr
        have q := evF_some ha hT hr
        clear hr
        obtain ⟨v, h1, hr⟩ := q
        have q := ih hl hT hr
        clear hr
        obtain ⟨vs, h2, hr⟩ := q
        exact ⟨v :: vs, by simp only [evL, h1, h2], hr⟩
      · cases hc
    · cases hc

theorem un1_some {g : FArg → FOp} {o : Option FArg} {fo : FOp} (h : un1 g o = some fo) : ∃ a, o = some a ∧ fo = g a := by
  cases o with
  | none => cases h
  | some a => cases h; exact ⟨a, rfl, rfl⟩
theorem un2_some {g : FArg → FArg → FOp} {o p : Option FArg} {fo : FOp} (h : un2 g o p = some fo) : ∃ a b, o = some a ∧ p = some b ∧ fo = g a b := by
  cases o with
  | none => cases h
  | some a => cases p with
    | none => cases h
    | some b => cases h; exact ⟨a, b, rfl, rfl, rfl⟩

/-- What calls do is what calls do there. -/
def CallSim (ck : CallK) (ca : CallA) : Prop := ∀ (g : FuncId) (args : List Value) (f : FH) (h : AH) (k : KV) (r : Value), SimH f h → ck g args f k = some r → ∃ v h' f', ca g args h = some (v, h') ∧ SimH f' h' ∧ k v f' = some r

/-- What an operation comes to, here and there. -/
def OpSim (P : Program) (gl : Nat → Option Nat) (op : Op) (fo : FOp) : Prop := ∀ (T : TT) (S : Tr Value) (f : FH) (h : AH) (ck : CallK) (ca : CallA) (k : KV) (r : Value), SimT T S → SimH f h → CallSim ck ca → semF fo T f ck k = some r →
  ∃ v h' f', stepV P ca (evA gl S) h op = some (v, h', []) ∧ SimH f' h' ∧ k v f' = some r

/-- Where nothing is known of frozen rows. -/
theorem stepV_no {ev : Operand → Option Value} {op : Op} (hg : opG P ev op = .no) : stepV P ca ev h op = stepO P ca ev h op := by unfold stepV; rw [hg]

theorem asP_of {v : Value} (h : ∀ t u, v ≠ .iface t u) : asP (some v) = none := by
  cases v <;> first | rfl | (rename_i t u; exact absurd rfl (h t u))
theorem asS_of {v : Value} (h : ∀ t u, v ≠ .iface t u) : asS (some v) = none := by
  cases v <;> first | rfl | (rename_i t u; exact absurd rfl (h t u))

theorem sim_mv {x : Operand} {op : Op} {fo : FOp} (hop : op = .move x ∨ op = .assign x) (hc : un1 .mv (compArg gl x) = some fo) : OpSim P gl op fo := by
  intro T S f h ck ca k r hT hh hcs hr
  obtain ⟨a, ha, rfl⟩ := un1_some hc
  have hr : evF a T (fun v => k v f) = some r := hr
  have q := evF_some ha hT hr
  clear hr
  obtain ⟨v, hv, hr⟩ := q
  refine ⟨v, h, f, ?_, hh, hr⟩
  rcases hop with rfl | rfl <;> (rw [stepV_no rfl]; simp only [stepO, opA, hv])

theorem sim_nilc {x : Operand} {fo : FOp} (hc : un1 .nilc (compArg gl x) = some fo) : OpSim P gl (.nilCheck x) fo := by
  intro T S f h ck ca k r hT hh hcs hr
  obtain ⟨a, ha, rfl⟩ := un1_some hc
  have hr : evF a T (fun v => nilcK v (k v f)) = some r := hr
  have q := evF_some ha hT hr
  clear hr
  obtain ⟨v, hv, hr⟩ := q
  have q := nilcK_some hr
  clear hr
  obtain ⟨hr, h1⟩ := q
  refine ⟨v, h, f, ?_, hh, hr⟩
  rcases h1 with ⟨p, rfl⟩ | ⟨g, p, q, rfl⟩
  · rw [stepV_no (by simp only [opG, hv, asP_of (v := .pointer (some p)) (fun _ _ e => by cases e)])]
    simp only [stepO, opA, hv]
  · rw [stepV_no (by simp only [opG, hv, asP_of (v := .func (.func g) p q) (fun _ _ e => by cases e)])]
    simp only [stepO, opA, hv]

theorem knd_ok {t : TypeId} {x : Value} (h : (Nat.beq (knd x) (kcOf P t) || Nat.beq (kcOf P t) 10) = true) : kindOk P t x = true := by
  unfold kcOf at h
  unfold kindOk
  split at h
  · rename_i kd hu
    rw [hu]
    dsimp only
    have h10 : Nat.beq (kdN kd) 10 = false := by cases kd <;> rfl
    rw [h10, Bool.or_false] at h
    cases x with
    | int kd' i =>
      have h : Nat.beq (kdN kd') (kdN kd) = true := h
      rw [kdN_inj h]
      simp
    | bool b => have h := Nat.eq_of_beq_eq_true h; exfalso; revert h; cases kd <;> (intro h; cases h)
    | string b => have h := Nat.eq_of_beq_eq_true h; exfalso; revert h; cases kd <;> (intro h; cases h)
    | _ => have h := Nat.eq_of_beq_eq_true h; exfalso; revert h; cases kd <;> (intro h; cases h)
  · rename_i hu
    rw [hu]
    dsimp only
    cases x with
    | bool b => rfl
    | int kd i => exfalso; revert h; cases kd <;> (intro h; cases h)
    | _ => cases h
  · rename_i hu
    rw [hu]
    dsimp only
    cases x with
    | string b => rfl
    | int kd i => exfalso; revert h; cases kd <;> (intro h; cases h)
    | _ => cases h
  · rename_i h1 h2 h3
    split
    · rename_i kd hu; exact absurd hu (h1 kd)
    · rename_i hu; exact absurd hu h2
    · rename_i hu; exact absurd hu h3
    · rfl

theorem sim_load1 {t : TypeId} {x : Operand} {fo : FOp} (hagg : aggT P t = some false) (hc : un1 (fun a => .load1 a (kcOf P t)) (compArg gl x) = some fo) : OpSim P gl (.load t x) fo := by
  intro T S f h ck ca k r hT hh hcs hr
  obtain ⟨a, ha, rfl⟩ := un1_some hc
  have hr : pLoad1 a (kcOf P t) T f ck k = some r := hr
  unfold pLoad1 at hr
  have q := evF_some ha hT hr
  clear hr
  obtain ⟨v, hv, hr⟩ := q
  have q := ptrK_some hr
  clear hr
  obtain ⟨b, off, rfl, hr⟩ := q
  have q := gH_some hr
  clear hr
  obtain ⟨x', e1, hr⟩ := q
  have q := rowK_some hr
  clear hr
  obtain ⟨ro, z, cs, rfl, hr⟩ := q
  have q := nthK_some hr
  clear hr
  obtain ⟨u, e2, hr⟩ := q
  have q := condK_some hr
  clear hr
  obtain ⟨e3, hr⟩ := q
  refine ⟨u, h, f, ?_, hh, hr⟩
  rw [stepV_no (by simp only [opG, hv, asP_of (v := .pointer (some ⟨b, off, none⟩)) (fun _ _ e => by cases e)])]
  simp only [stepO, opA, hv, loadA, hh.2 b _ e1, hagg, cellA, e2, knd_ok e3, cond_true]

theorem sim_loadN {t : TypeId} {x : Operand} {n : Nat} {fo : FOp} (hagg : aggT P t = some true) (hsz : szT P t = some n) (hc : un1 (fun a => .loadN a n) (compArg gl x) = some fo) : OpSim P gl (.load t x) fo := by
  intro T S f h ck ca k r hT hh hcs hr
  obtain ⟨a, ha, rfl⟩ := un1_some hc
  have hr : pLoadN a n T f ck k = some r := hr
  unfold pLoadN at hr
  have q := evF_some ha hT hr
  clear hr
  obtain ⟨v, hv, hr⟩ := q
  have q := ptrK_some hr
  clear hr
  obtain ⟨b, off, rfl, hr⟩ := q
  have q := gH_some hr
  clear hr
  obtain ⟨x', e1, hr⟩ := q
  have q := rowK_some hr
  clear hr
  obtain ⟨ro, z, cs, rfl, hr⟩ := q
  have q := dropK_some hr
  clear hr
  obtain ⟨e2, hr⟩ := q
  have q := takeK_some hr
  clear hr
  obtain ⟨e3, hr⟩ := q
  rw [List.length_drop] at e3
  refine ⟨_, h, f, ?_, hh, hr⟩
  rw [stepV_no (by simp only [opG, hv, asP_of (v := .pointer (some ⟨b, off, none⟩)) (fun _ _ e => by cases e)])]
  simp only [stepO, opA, hv, loadA, hh.2 b _ e1, hagg, hsz, Nat.ble_eq_true_of_le (show off + n ≤ cs.length by omega), cond_true]

theorem sim_store1 {t : TypeId} {x y : Operand} {fo : FOp} (hsz : szT P t = some 1) (hc : un2 .store1 (compArg gl x) (compArg gl y) = some fo) : OpSim P gl (.store t x y) fo := by
  intro T S f h ck ca k r hT hh hcs hr
  obtain ⟨a, b, ha, hb, rfl⟩ := un2_some hc
  have hr : pStore1 a b T f ck k = some r := hr
  unfold pStore1 at hr
  have q := evF_some ha hT hr
  clear hr
  obtain ⟨v, hv, hr⟩ := q
  have q := ptrK_some hr
  clear hr
  obtain ⟨b', off, rfl, hr⟩ := q
  have q := evF_some hb hT hr
  clear hr
  obtain ⟨u, hu, hr⟩ := q
  have q := condK_some hr
  clear hr
  obtain ⟨e1, hr⟩ := q
  have e2 := one1_cells e1
  rw [cell1_eq] at e1
  have q := wrK_some hh hr (by simp [e1])
  clear hr
  obtain ⟨h', f', e3, hh', hr⟩ := q
  refine ⟨_, h', f', ?_, hh', hr⟩
  rw [stepV_no rfl]
  simp only [stepO, opA, hv, hu, storeA, hsz, e2, List.length_singleton, Nat.beq_refl, cond_true, e3]

theorem sim_storeN {t : TypeId} {x y : Operand} {n : Nat} {fo : FOp} (hsz : szT P t = some n) (hc : un2 (fun a b => .storeN a b n) (compArg gl x) (compArg gl y) = some fo) : OpSim P gl (.store t x y) fo := by
  intro T S f h ck ca k r hT hh hcs hr
  obtain ⟨a, b, ha, hb, rfl⟩ := un2_some hc
  have hr : pStoreN a b n T f ck k = some r := hr
  unfold pStoreN at hr
  have q := evF_some ha hT hr
  clear hr
  obtain ⟨v, hv, hr⟩ := q
  have q := ptrK_some hr
  clear hr
  obtain ⟨b', off, rfl, hr⟩ := q
  have q := evF_some hb hT hr
  clear hr
  obtain ⟨u, hu, hr⟩ := q
  have q := aggK_some hr
  clear hr
  obtain ⟨cs, rfl, hr⟩ := q
  have q := condK_some hr
  clear hr
  obtain ⟨e0, hr⟩ := q
  have q := condK_some hr
  clear hr
  obtain ⟨e1, hr⟩ := q
  rw [lenF_eq] at e0
  rw [allF_eq] at e1
  have q := wrK_some hh hr e1
  clear hr
  obtain ⟨h', f', e3, hh', hr⟩ := q
  refine ⟨_, h', f', ?_, hh', hr⟩
  rw [stepV_no rfl]
  have e2 : (Value.agg ⟨cs⟩).cells.toList = cs := rfl
  simp only [stepO, opA, hv, hu, storeA, hsz, e2, e0, cond_true, e3]

theorem sim_faddr {t : TypeId} {x : Operand} {i n : Nat} {fs : List Field} {fd : Field} {fo : FOp} (hfs : fieldsT P t = some fs) (hf : fs[i]? = some fd) (hsz : szT P fd.type = some n) (hn : Nat.beq n 0 = false)
    (hc : un1 (fun a => .faddr a fd.offset) (compArg gl x) = some fo) : OpSim P gl (.fieldAddr t x i) fo := by
  intro T S f h ck ca k r hT hh hcs hr
  obtain ⟨a, ha, rfl⟩ := un1_some hc
  have hr : pFaddr a fd.offset T f ck k = some r := hr
  unfold pFaddr at hr
  have q := evF_some ha hT hr
  clear hr
  obtain ⟨v, hv, hr⟩ := q
  have q := ptrK_some hr
  clear hr
  obtain ⟨b, off, rfl, hr⟩ := q
  rw [forceN_eq] at hr
  refine ⟨_, h, f, ?_, hh, hr⟩
  rw [stepV_no (by simp only [opG, hv, asP_of (v := .pointer (some ⟨b, off, none⟩)) (fun _ _ e => by cases e)])]
  simp only [stepO, opA, hv, fieldAddrA, hfs, hf, hsz, hn, cond_false]
  rfl

theorem sim_fld1 {t : TypeId} {x : Operand} {i : Nat} {fs : List Field} {fd : Field} {fo : FOp} (hfs : fieldsT P t = some fs) (hf : fs[i]? = some fd) (hagg : aggT P fd.type = some false)
    (hc : un1 (fun a => .fld1 a fd.offset) (compArg gl x) = some fo) : OpSim P gl (.field t x i) fo := by
  intro T S f h ck ca k r hT hh hcs hr
  obtain ⟨a, ha, rfl⟩ := un1_some hc
  have hr : pFld1 a fd.offset T f ck k = some r := hr
  unfold pFld1 at hr
  have q := evF_some ha hT hr
  clear hr
  obtain ⟨v, hv, hr⟩ := q
  have q := aggK_some hr
  clear hr
  obtain ⟨cs, rfl, hr⟩ := q
  have q := nthK_some hr
  clear hr
  obtain ⟨u, e1, hr⟩ := q
  refine ⟨u, h, f, ?_, hh, hr⟩
  rw [stepV_no rfl]
  simp only [stepO, opA, hv, fieldA, hfs, hf, partA, hagg, e1]

theorem sim_iaS {t e : TypeId} {x i : Operand} {z : Nat} {fo : FOp} (hu : P.underlying t = some (.slice e)) (hz : szT P e = some z) (hc : un2 (fun a b => .iaS a b z) (compArg gl x) (compArg gl i) = some fo) : OpSim P gl (.indexAddr t x i) fo := by
  intro T S f h ck ca k r hT hh hcs hr
  obtain ⟨a, b, ha, hb, rfl⟩ := un2_some hc
  have hr : pIaS a b z T f ck k = some r := hr
  unfold pIaS at hr
  have q := evF_some ha hT hr
  clear hr
  obtain ⟨v, hv, hr⟩ := q
  have q := slcK_some hr
  clear hr
  rcases q with ⟨n, c, _, hr⟩ | ⟨b', off, n, c, rfl, hr⟩
  · cases hr
  · have q := evF_some hb hT hr
    clear hr
    obtain ⟨iv, hi, hr⟩ := q
    have q := natK_some hr
    clear hr
    obtain ⟨kd, j, rfl, hr⟩ := q
    have q := condK_some hr
    clear hr
    obtain ⟨e1, hr⟩ := q
    rw [forceN_eq] at hr
    have e1 := Nat.le_of_ble_eq_true e1
    refine ⟨_, h, f, ?_, hh, hr⟩
    rw [stepV_no (by simp only [opG, hv, asS_of (v := .slice (some ⟨b', off, none⟩) n c) (fun _ _ e => by cases e)])]
    simp only [stepO, opA, hv, hi, indexAddrA, hu, hz]
    rw [if_pos ⟨by show (0 : Int) ≤ (j : Int); omega, by show (j : Int) < (n : Int); omega⟩]
    rfl

theorem sim_ixS {t : TypeId} {x i : Operand} {fo : FOp} (hu : P.underlying t = some .string) (hc : un2 .ixS (compArg gl x) (compArg gl i) = some fo) : OpSim P gl (.index t x i) fo := by
  intro T S f h ck ca k r hT hh hcs hr
  obtain ⟨a, b, ha, hb, rfl⟩ := un2_some hc
  have hr : pIxS a b T f ck k = some r := hr
  unfold pIxS at hr
  have q := evF_some ha hT hr
  clear hr
  obtain ⟨v, hv, hr⟩ := q
  have q := strK_some hr
  clear hr
  obtain ⟨l, rfl, hr⟩ := q
  have q := evF_some hb hT hr
  clear hr
  obtain ⟨iv, hi, hr⟩ := q
  have q := natK_some hr
  clear hr
  obtain ⟨kd, j, rfl, hr⟩ := q
  have q := nthK_some hr
  clear hr
  obtain ⟨c, e1, hr⟩ := q
  rw [forceN_eq] at hr
  refine ⟨_, h, f, ?_, hh, hr⟩
  rw [stepV_no rfl]
  simp only [stepO, opA, hv, hi, indexA, hu]
  rw [if_pos (by show (0 : Int) ≤ (j : Int); omega)]
  have : (Int.ofNat j).toNat = j := rfl
  rw [this, e1]
  rfl

theorem binK_some {x y : Operand} {a b : FArg} {g : IntKind → Int → Int → O1} (ha : compArg gl x = some a) (hb : compArg gl y = some b) (hT : SimT T S) (hr : binK a b T g = some r) :
    ∃ kd m n, evA gl S x = some (.int kd m) ∧ evA gl S y = some (.int kd n) ∧ g kd m n = some r := by
  unfold binK at hr
  have q := evF_some ha hT hr
  clear hr
  obtain ⟨v, hv, hr⟩ := q
  have q := intvK_some hr
  clear hr
  obtain ⟨kd, m, rfl, hr⟩ := q
  have q := evF_some hb hT hr
  clear hr
  obtain ⟨u, hu, hr⟩ := q
  have q := intvK_some hr
  clear hr
  obtain ⟨kd', n, rfl, hr⟩ := q
  have q := condK_some hr
  clear hr
  obtain ⟨e, hr⟩ := q
  have := kdN_inj e
  subst this
  exact ⟨kd, m, n, hv, hu, hr⟩

/-- Numbers: by what intA says. -/
theorem sim_bin {op : BinOp} {t ty : TypeId} {x y : Operand} {fo : FOp} {g : KV → FH → IntKind → Int → Int → O1} {a b : FArg} (ha : compArg gl x = some a) (hb : compArg gl y = some b) (hop : op ≠ .shl ∧ op ≠ .shr)
    (hsem : ∀ T f ck k, semF fo T f ck k = binK a b T (g k f)) (hg : ∀ k f kd m n r, g k f kd m n = some r → ∃ v, intA op kd m n = some v ∧ k v f = some r) : OpSim P gl (.binOp op t x y ty) fo := by
  intro T S f h ck ca k r hT hh hcs hr
  rw [hsem] at hr
  have q := binK_some ha hb hT hr
  clear hr
  obtain ⟨kd, m, n, h1, h2, hr⟩ := q
  have q := hg _ _ _ _ _ _ hr
  clear hr
  obtain ⟨v, h3, hr⟩ := q
  refine ⟨v, h, f, ?_, hh, hr⟩
  rw [stepV_no rfl]
  have : binA P op t (isConst x || isConst y) (.int kd m) (.int kd n) = some v := by
    unfold binA
    cases op <;> first | exact absurd rfl hop.1 | exact absurd rfl hop.2 | (simp only [if_true]; exact h3)
  simp only [stepO, opA, h1, h2, this]

/-- The same, its operands turned round. -/
theorem sim_binR {op : BinOp} {t ty : TypeId} {x y : Operand} {fo : FOp} {g : KV → FH → IntKind → Int → Int → O1} {a b : FArg} (ha : compArg gl y = some a) (hb : compArg gl x = some b) (hop : op ≠ .shl ∧ op ≠ .shr)
    (hsem : ∀ T f ck k, semF fo T f ck k = binK a b T (g k f)) (hg : ∀ k f kd m n r, g k f kd m n = some r → ∃ v, intA op kd n m = some v ∧ k v f = some r) : OpSim P gl (.binOp op t x y ty) fo := by
  intro T S f h ck ca k r hT hh hcs hr
  rw [hsem] at hr
  have q := binK_some ha hb hT hr
  clear hr
  obtain ⟨kd, m, n, h1, h2, hr⟩ := q
  have q := hg _ _ _ _ _ _ hr
  clear hr
  obtain ⟨v, h3, hr⟩ := q
  refine ⟨v, h, f, ?_, hh, hr⟩
  rw [stepV_no rfl]
  have : binA P op t (isConst x || isConst y) (.int kd n) (.int kd m) = some v := by
    unfold binA
    cases op <;> first | exact absurd rfl hop.1 | exact absurd rfl hop.2 | (simp only [if_true]; exact h3)
  simp only [stepO, opA, h1, h2, this]

theorem tf_some {b : Bool} {p q : O1} (h : tfK b p q = some r) : (b = true ∧ p = some r) ∨ (b = false ∧ q = some r) := by
  cases b with
  | true => exact .inl ⟨rfl, h⟩
  | false => exact .inr ⟨rfl, h⟩

theorem sim_str {op : BinOp} {t ty : TypeId} {x y : Operand} {fo : FOp} {g : KV → FH → List UInt8 → List UInt8 → O1} {a b : FArg} (ha : compArg gl x = some a) (hb : compArg gl y = some b)
    (hsem : ∀ T f ck k, semF fo T f ck k = str2 a b T (g k f)) (hg : ∀ k f l m r, g k f l m = some r → ∃ v, strA op ⟨⟨l⟩⟩ ⟨⟨m⟩⟩ = some v ∧ k v f = some r) : OpSim P gl (.binOp op t x y ty) fo := by
  intro T S f h ck ca k r hT hh hcs hr
  rw [hsem] at hr
  unfold str2 at hr
  have q := evF_some ha hT hr
  clear hr
  obtain ⟨v, hv, hr⟩ := q
  have q := strK_some hr
  clear hr
  obtain ⟨l, rfl, hr⟩ := q
  have q := evF_some hb hT hr
  clear hr
  obtain ⟨u, hu, hr⟩ := q
  have q := strK_some hr
  clear hr
  obtain ⟨m, rfl, hr⟩ := q
  have q := hg _ _ _ _ _ hr
  clear hr
  obtain ⟨w, h3, hr⟩ := q
  refine ⟨w, h, f, ?_, hh, hr⟩
  rw [stepV_no rfl]
  simp only [stepO, opA, hv, hu, binA, h3]

theorem sim_not {t : TypeId} {x : Operand} {fo : FOp} (hc : un1 .not (compArg gl x) = some fo) : OpSim P gl (.unOp .not t x) fo := by
  intro T S f h ck ca k r hT hh hcs hr
  obtain ⟨a, ha, rfl⟩ := un1_some hc
  have hr : evF a T (fun v => boolK v (k (.bool false) f) (k (.bool true) f)) = some r := hr
  have q := evF_some ha hT hr
  clear hr
  obtain ⟨v, hv, hr⟩ := q
  have q := boolK_some hr
  clear hr
  rcases q with ⟨rfl, hr⟩ | ⟨rfl, hr⟩
  · exact ⟨_, h, f, by rw [stepV_no rfl]; simp only [stepO, opA, hv, unA]; rfl, hh, hr⟩
  · exact ⟨_, h, f, by rw [stepV_no rfl]; simp only [stepO, opA, hv, unA]; rfl, hh, hr⟩

theorem sim_extr {x : Operand} {i : Nat} {fo : FOp} (hc : un1 (fun a => .extr a i) (compArg gl x) = some fo) : OpSim P gl (.extract x i) fo := by
  intro T S f h ck ca k r hT hh hcs hr
  obtain ⟨a, ha, rfl⟩ := un1_some hc
  have hr : evF a T (fun v => tupK v fun l => nthK l i fun u => k u f) = some r := hr
  have q := evF_some ha hT hr
  clear hr
  obtain ⟨v, hv, hr⟩ := q
  have q := tupK_some hr
  clear hr
  obtain ⟨l, rfl, hr⟩ := q
  have q := nthK_some hr
  clear hr
  obtain ⟨u, e, hr⟩ := q
  exact ⟨_, h, f, by rw [stepV_no rfl]; simp only [stepO, opA, hv, e], hh, hr⟩

theorem sim_lenL {x : Operand} {t e : TypeId} {ts : List TypeId} {args : Array Operand} {aT : Array TypeId} {fo : FOp} (hargs : args.toList = [x]) (hts : aT.toList = t :: ts) (hu : P.underlying t = some (.slice e)) (hc : un1 .lenL (compArg gl x) = some fo) :
    OpSim P gl (.call ⟨.builtin .len, args, aT⟩) fo := by
  intro T S f h ck ca k r hT hh hcs hr
  obtain ⟨a, ha, rfl⟩ := un1_some hc
  have hr : evF a T (fun v => slcK v (fun n _ => k (.int .i64 (.ofNat n)) f) fun _ _ n _ => k (.int .i64 (.ofNat n)) f) = some r := hr
  have q := evF_some ha hT hr
  clear hr
  obtain ⟨v, hv, hr⟩ := q
  have key : ∃ p n c, v = .slice p n c ∧ k (.int .i64 (.ofNat n)) f = some r := by
    have q := slcK_some hr
    clear hr
    rcases q with ⟨n, c, rfl, hr⟩ | ⟨b', off, n, c, rfl, hr⟩
    · exact ⟨_, _, _, rfl, hr⟩
    · exact ⟨_, _, _, rfl, hr⟩
  clear hr
  obtain ⟨p, n, c, rfl, hr⟩ := key
  refine ⟨_, h, f, ?_, hh, hr⟩
  rw [stepV_no (by simp only [opG, hargs, hv, asS_of (v := .slice p n c) (fun _ _ e => by cases e)])]
  simp only [stepO, opA, hargs, hts, evL, hv, builtinA, lenA, hu]
  rfl

theorem sim_lenS {x : Operand} {t : TypeId} {ts : List TypeId} {args : Array Operand} {aT : Array TypeId} {fo : FOp} (hargs : args.toList = [x]) (hts : aT.toList = t :: ts) (hu : P.underlying t = some .string) (hc : un1 .lenS (compArg gl x) = some fo) :
    OpSim P gl (.call ⟨.builtin .len, args, aT⟩) fo := by
  intro T S f h ck ca k r hT hh hcs hr
  obtain ⟨a, ha, rfl⟩ := un1_some hc
  have hr : evF a T (fun v => strK v fun l => forceN (lenF l) fun n => k (.int .i64 (.ofNat n)) f) = some r := hr
  have q := evF_some ha hT hr
  clear hr
  obtain ⟨v, hv, hr⟩ := q
  have q := strK_some hr
  clear hr
  obtain ⟨l, rfl, hr⟩ := q
  rw [forceN_eq, lenF_eq] at hr
  refine ⟨_, h, f, ?_, hh, hr⟩
  rw [stepV_no (by simp only [opG, hargs, hv, asS_of (v := .string ⟨⟨l⟩⟩) (fun _ _ e => by cases e)])]
  simp only [stepO, opA, hargs, hts, evL, hv, builtinA, lenA, hu]
  rfl

theorem sim_mkF {fn : Fn} {first cap : Array Operand} {a b : List FArg} (h1 : compArgs gl first.toList = some a) (h2 : compArgs gl cap.toList = some b) : OpSim P gl (.makeFunc fn first cap) (.mkF fn a b) := by
  intro T S f h ck ca k r hT hh hcs hr
  have hr : evFL a T (fun l => evFL b T fun l' => k (.func fn ⟨l⟩ ⟨l'⟩) f) = some r := hr
  have q := evFL_some h1 hT hr
  clear hr
  obtain ⟨l, e1, hr⟩ := q
  have q := evFL_some h2 hT hr
  clear hr
  obtain ⟨l', e2, hr⟩ := q
  exact ⟨_, h, f, by rw [stepV_no rfl]; simp only [stepO, opA, e1, e2], hh, hr⟩

theorem sim_alloc {t : TypeId} {z : Value} (hz : zeroA P t = some z) : OpSim P gl (.alloc t) (.alloc z.cells.toList) := by
  intro T S f h ck ca k r hT hh hcs hr
  have hr : addK f (.row false 1 z.cells.toList) (fun b h' => k (.pointer (some ⟨b, 0, none⟩)) h') = some r := hr
  have q := addK_some hh hr
  clear hr
  obtain ⟨f', hh', hr⟩ := q
  exact ⟨_, _, f', by rw [stepV_no rfl]; simp only [stepO, opA, hz], hh', hr⟩

end Go.Proofs.Ytgfjnnkhlgmbcaa.AI
