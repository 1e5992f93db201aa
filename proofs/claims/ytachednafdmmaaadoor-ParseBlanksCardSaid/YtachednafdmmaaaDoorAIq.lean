/- The abstract interpreter: in whatever order a region's operations come up, the same is come to. -/
import Derived.Test.YtachednafdmmaaaDoorAIp
namespace Go.Proofs.YtachednafdmmaaaDoor.AI
open Go
set_option linter.unusedVariables false
set_option linter.unusedSimpArgs false

variable {P : Program} {gl : Nat → Option Nat} {call : CallA} {ops : Array Oper} {bef : List Nat}

/-- What stands in a temporary, when of the trace's steps those in D have been taken. -/
def valD (D : Nat → Bool) (t : Tmp) : List Ent → Option Value → Option Value
  | [], x => x
  | e :: E, x => valD D t E (if D e.i = true ∧ e.o.dst = some t then e.q.σ.T.get t else x)

theorem valD_append (D : Nat → Bool) (t : Tmp) : ∀ (E F : List Ent) (x : Option Value), valD D t (E ++ F) x = valD D t F (valD D t E x) := by
  intro E
  induction E with
  | nil => intro F x; rfl
  | cons e E ih => intro F x; exact ih F _

theorem valD_congr {D1 D2 : Nat → Bool} {t : Tmp} : ∀ {E : List Ent} {x : Option Value}, (∀ e ∈ E, e.o.dst = some t → D1 e.i = D2 e.i) → valD D1 t E x = valD D2 t E x := by
  intro E
  induction E with
  | nil => intro x _; rfl
  | cons e E ih =>
    intro x h
    simp only [valD]
    rw [ih (fun y hy => h y (List.mem_cons.2 (.inr hy)))]
    congr 1
    by_cases hd : e.o.dst = some t
    · rw [h e (List.mem_cons.2 (.inl rfl)) hd]
    · rw [if_neg (fun hh => hd hh.2), if_neg (fun hh => hd hh.2)]

theorem valD_none {D : Nat → Bool} {t : Tmp} : ∀ {E : List Ent} {x : Option Value}, (∀ e ∈ E, e.o.dst = some t → D e.i = false) → valD D t E x = x := by
  intro E
  induction E with
  | nil => intro x _; rfl
  | cons e E ih =>
    intro x h
    simp only [valD]
    rw [ih (fun y hy => h y (List.mem_cons.2 (.inr hy))), if_neg]
    rintro ⟨h1, h2⟩
    rw [h e (List.mem_cons.2 (.inl rfl)) h2] at h1
    cases h1

def effE (P : Program) (ops : Array Oper) (e : Ent) : Bool :=
  match wantA ops e.o e.p.σ.T with
  | some true => Nat.ble 2 (clsA P e.o.op)
  | _ => false

/-- The heap, and what has been put off. -/
def hdsD (P : Program) (ops : Array Oper) (D : Nat → Bool) : List Ent → AH × List (FuncId × List Value) → AH × List (FuncId × List Value)
  | [], x => x
  | e :: E, x => hdsD P ops D E (if D e.i = true ∧ effE P ops e = true then (e.q.σ.h, e.q.σ.ds) else x)

theorem hdsD_append (D : Nat → Bool) : ∀ (E F : List Ent) (x : AH × List (FuncId × List Value)), hdsD P ops D (E ++ F) x = hdsD P ops D F (hdsD P ops D E x) := by
  intro E
  induction E with
  | nil => intro F x; rfl
  | cons e E ih => intro F x; exact ih F _

theorem hdsD_congr {D1 D2 : Nat → Bool} : ∀ {E : List Ent} {x : AH × List (FuncId × List Value)}, (∀ e ∈ E, effE P ops e = true → D1 e.i = D2 e.i) → hdsD P ops D1 E x = hdsD P ops D2 E x := by
  intro E
  induction E with
  | nil => intro x _; rfl
  | cons e E ih =>
    intro x h
    simp only [hdsD]
    rw [ih (fun y hy => h y (List.mem_cons.2 (.inr hy)))]
    congr 1
    by_cases hd : effE P ops e = true
    · rw [h e (List.mem_cons.2 (.inl rfl)) hd]
    · rw [if_neg (fun hh => hd hh.2), if_neg (fun hh => hd hh.2)]

theorem hdsD_none {D : Nat → Bool} : ∀ {E : List Ent} {x : AH × List (FuncId × List Value)}, (∀ e ∈ E, effE P ops e = true → D e.i = false) → hdsD P ops D E x = x := by
  intro E
  induction E with
  | nil => intro x _; rfl
  | cons e E ih =>
    intro x h
    simp only [hdsD]
    rw [ih (fun y hy => h y (List.mem_cons.2 (.inr hy))), if_neg]
    rintro ⟨h1, h2⟩
    rw [h e (List.mem_cons.2 (.inl rfl)) h2] at h1
    cases h1

theorem putA_get {σ σ' : St} {dst : Option Tmp} {v : Value} (h : putA σ dst v = some σ') : σ'.n = σ.n ∧ σ'.h = σ.h ∧ σ'.ds = σ.ds ∧ (∀ t, σ'.T.get t = if dst = some t then some v else σ.T.get t) := by
  rw [putA_def] at h
  split at h
  · cases h; exact ⟨rfl, rfl, rfl, fun t => by rw [if_neg (by simp)]⟩
  · rename_i d
    cases hb : Nat.blt d σ.n with
    | false => rw [hb] at h; cases h
    | true =>
      rw [hb] at h
      cases h
      refine ⟨rfl, rfl, rfl, fun t => ?_⟩
      show (σ.T.set d (some v)).get t = _
      rw [Tr.get_set]
      by_cases ht : t = d
      · subst ht; rw [if_pos rfl, if_pos rfl]
      · rw [if_neg ht, if_neg (fun e => ht (by cases e; rfl))]

theorem putA_of {σ σ1 : St} {dst : Option Tmp} {v v1 : Value} {σ' : St} (h : putA σ1 dst v1 = some σ') (hn : σ.n = σ1.n) : ∃ σ2, putA σ dst v = some σ2 := by
  rw [putA_def] at h ⊢
  split at h
  · exact ⟨_, rfl⟩
  · rename_i d
    cases hb : Nat.blt d σ1.n with
    | false => rw [hb] at h; cases h
    | true =>
      rw [hn, hb]
      exact ⟨_, rfl⟩

theorem stepA_open {o : Oper} {σ σ' : St} (h : stepA P gl call o σ = some σ') : ∃ v h' d, stepV P call (evA gl σ.T) σ.h o.op = some (v, h', d) ∧ putA { σ with h := h', ds := d ++ σ.ds } o.dst v = some σ' := by
  rw [stepA_def] at h
  split at h
  · rename_i v h' d hv
    exact ⟨v, h', d, hv, h⟩
  · cases h

/-- What a step leaves of temporaries that are not its own, of the heap where it does not change it. -/
theorem Fact.keeps {e : Ent} (f : Fact P gl call ops bef e) : e.q.σ.n = e.p.σ.n ∧ (∀ t, e.o.dst ≠ some t → e.q.σ.T.get t = e.p.σ.T.get t) ∧ (effE P ops e = false → e.q.σ.h = e.p.σ.h ∧ e.q.σ.ds = e.p.σ.ds) := by
  cases f.kind with
  | skip hw hs hl hr =>
    obtain ⟨h1, h2, h3, h4⟩ := putA_get hs
    exact ⟨h1, fun t ht => by rw [h4, if_neg ht], fun _ => ⟨h2, h3⟩⟩
  | pur hw hc hs hl hr =>
    obtain ⟨v, h', d, hv, hp⟩ := stepA_open hs
    obtain ⟨h1, h2, h3, h4⟩ := putA_get hp
    obtain ⟨e1, e2, _⟩ := pur_ok hc hv
    subst e1 e2
    exact ⟨h1, fun t ht => by rw [h4, if_neg ht], fun _ => ⟨h2, h3⟩⟩
  | rd hw hc hok hs hl hr =>
    obtain ⟨v, h', d, hv, hp⟩ := stepA_open hs
    obtain ⟨h1, h2, h3, h4⟩ := putA_get hp
    obtain ⟨e1, e2, _⟩ := rd_ok hc hv
    subst e1 e2
    exact ⟨h1, fun t ht => by rw [h4, if_neg ht], fun _ => ⟨h2, h3⟩⟩
  | eff hw hc hok hl σ1 hlk hs hq hll hr =>
    obtain ⟨v, h', d, hv, hp⟩ := stepA_open hs
    obtain ⟨h1, h2, h3, h4⟩ := putA_get hp
    rw [hq]
    refine ⟨h1, fun t ht => by show σ1.T.get t = _; rw [h4, if_neg ht], fun he => ?_⟩
    unfold effE at he
    rw [hw] at he
    have : Nat.ble 2 (clsA P e.o.op) = true := Nat.ble_eq_true_of_le hc
    rw [this] at he
    cases he

theorem Chain.val : ∀ {E : List Ent} {r r' : RSt}, Chain r E r' → (∀ e ∈ E, Fact P gl call ops bef e) → ∀ t, r'.σ.T.get t = valD (fun _ => true) t E (r.σ.T.get t) := by
  intro E
  induction E with
  | nil => intro r r' h _ t; have : r' = r := h; subst this; rfl
  | cons e E ih =>
    intro r r' h hf t
    obtain ⟨h1, h2⟩ := h
    subst h1
    rw [ih h2 (fun x hx => hf x (List.mem_cons.2 (.inr hx))) t]
    simp only [valD]
    congr 1
    by_cases hd : e.o.dst = some t
    · rw [if_pos ⟨trivial, hd⟩]
    · rw [if_neg (fun hh => hd hh.2)]
      exact (hf e (List.mem_cons.2 (.inl rfl))).keeps.2.1 t hd

theorem Chain.hds : ∀ {E : List Ent} {r r' : RSt}, Chain r E r' → (∀ e ∈ E, Fact P gl call ops bef e) → (r'.σ.h, r'.σ.ds) = hdsD P ops (fun _ => true) E (r.σ.h, r.σ.ds) := by
  intro E
  induction E with
  | nil => intro r r' h _; have : r' = r := h; subst this; rfl
  | cons e E ih =>
    intro r r' h hf
    obtain ⟨h1, h2⟩ := h
    subst h1
    rw [ih h2 (fun x hx => hf x (List.mem_cons.2 (.inr hx)))]
    simp only [hdsD]
    congr 1
    by_cases hd : effE P ops e = true
    · rw [if_pos ⟨trivial, hd⟩]
    · rw [if_neg (fun hh => hd hh.2)]
      have := (hf e (List.mem_cons.2 (.inl rfl))).keeps.2.2 (by simpa using hd)
      rw [this.1, this.2]

theorem Chain.n : ∀ {E : List Ent} {r r' : RSt}, Chain r E r' → (∀ e ∈ E, Fact P gl call ops bef e) → r'.σ.n = r.σ.n := by
  intro E
  induction E with
  | nil => intro r r' h _; have : r' = r := h; subst this; rfl
  | cons e E ih =>
    intro r r' h hf
    obtain ⟨h1, h2⟩ := h
    subst h1
    rw [ih h2 (fun x hx => hf x (List.mem_cons.2 (.inr hx)))]
    exact (hf e (List.mem_cons.2 (.inl rfl))).keeps.1

/-- Of a trace from the beginning: what comes before what. -/
theorem order_facts {E1 : List Ent} {e : Ent} {E2 : List Ent} {r r' : RSt} (h : Chain r (E1 ++ e :: E2) r') (h0 : r.done = 0) (hf : ∀ x ∈ E1 ++ e :: E2, Fact P gl call ops bef x) :
    (∀ x ∈ E1, x.i ≠ e.i) ∧ (∀ x ∈ E2, x.i ≠ e.i) ∧ (∀ k, (befN bef e.i).testBit k = true → k ∈ E1.map (·.i)) ∧ (∀ x ∈ E1, (befN bef x.i).testBit e.i = false) ∧ (∀ x ∈ E2, (befN bef e.i).testBit x.i = false) := by
  obtain ⟨c1, c2⟩ := h.split
  have f1 : ∀ x ∈ E1, Fact P gl call ops bef x := fun x hx => hf x (List.mem_append.2 (.inl hx))
  have fe := hf e (List.mem_append.2 (.inr (List.mem_cons.2 (.inl rfl))))
  have f2 : ∀ x ∈ E2, Fact P gl call ops bef x := fun x hx => hf x (List.mem_append.2 (.inr (List.mem_cons.2 (.inr hx))))
  have d1 : ∀ k, e.p.done.testBit k = true ↔ k ∈ E1.map (·.i) := fun k => by rw [c1.done f1 k, h0]; simp
  have dq : ∀ k, e.q.done.testBit k = true ↔ (k ∈ E1.map (·.i) ∨ k = e.i) := fun k => by
    rw [fe.done, testBit_done, Bool.or_eq_true, d1, decide_eq_true_eq]
    exact ⟨fun h => h.imp id Eq.symm, fun h => h.imp id Eq.symm⟩
  have hsplit2 : ∀ x ∈ E2, ∃ F1 F2, E2 = F1 ++ x :: F2 := fun x hx => List.append_of_mem hx
  have n2 : ∀ x ∈ E2, x.i ≠ e.i ∧ x.i ∉ E1.map (·.i) := fun x hx => by
    obtain ⟨F1, F2, rfl⟩ := hsplit2 x hx
    obtain ⟨c3, c4⟩ := c2.split
    have hx := (f2 x hx).new
    have hd := c3.done (fun y hy => f2 y (List.mem_append.2 (.inl hy))) x.i
    have : ¬ x.p.done.testBit x.i = true := by rw [hx]; simp
    rw [hd, dq] at this
    exact ⟨fun h => this (.inl (.inr h)), fun h => this (.inl (.inl h))⟩
  refine ⟨fun x hx he => ?_, fun x hx => (n2 x hx).1, fun k hk => (d1 k).1 (fe.sub k hk), fun x hx => ?_, fun x hx => ?_⟩
  · have hn := fe.new
    have : e.p.done.testBit e.i = true := (d1 e.i).2 (List.mem_map.2 ⟨x, hx, he⟩)
    rw [hn] at this
    cases this
  · cases hb : (befN bef x.i).testBit e.i with
    | false => rfl
    | true =>
      obtain ⟨F1, F2, rfl⟩ := List.append_of_mem hx
      obtain ⟨c3, c4⟩ := c1.split
      have h1 := (f1 x hx).sub _ hb
      rw [c3.done (fun y hy => f1 y (List.mem_append.2 (.inl hy))) e.i, h0] at h1
      have hn := fe.new
      have : e.p.done.testBit e.i = true := (d1 e.i).2 (by
        rcases h1 with h1 | h1
        · simp at h1
        · simp only [List.map_append, List.mem_append]; exact .inl h1)
      rw [hn] at this
      cases this
  · cases hb : (befN bef e.i).testBit x.i with
    | false => rfl
    | true => exact absurd ((d1 _).1 (fe.sub _ hb)) (n2 x hx).2

/-- Operations that share a temporary wait for one another. -/
theorem share {i j : Nat} {oi oj : Oper} (ha : apartOk ops bef = true) (hi : ops.toList[i]? = some oi) (hj : ops.toList[j]? = some oj) (hne : j ≠ i) {t : Tmp} (hd : oj.dst = some t) (hl : t ∈ oi.looksAt ops ∨ oi.dst = some t) :
    (j < i ∧ (befN bef i).testBit j = true) ∨ (i < j ∧ (befN bef j).testBit i = true) := by
  have hli : i < ops.toList.length := by
    rcases Nat.lt_or_ge i ops.toList.length with h | h
    · exact h
    · rw [List.getElem?_eq_none h] at hi; cases hi
  have hlj : j < ops.toList.length := by
    rcases Nat.lt_or_ge j ops.toList.length with h | h
    · exact h
    · rw [List.getElem?_eq_none h] at hj; cases hj
  have pair : ∀ a b oa ob, b < a → a < ops.toList.length → ops.toList[a]? = some oa → ops.toList[b]? = some ob → (befN bef a).testBit b = true ∨ ob.apart ops oa = true := by
    intro a b oa ob hba hla h1 h2
    unfold apartOk at ha
    rw [List.all_eq_true] at ha
    have := ha a (List.mem_range.2 hla)
    rw [List.all_eq_true] at this
    have := this b (List.mem_range.2 hba)
    rw [h1, h2] at this
    simpa [befN] using this
  rcases Nat.lt_or_gt_of_ne hne with h | h
  · refine .inl ⟨h, (pair i j oi oj h hli hi hj).resolve_right fun hap => ?_⟩
    obtain ⟨a1, a2, a3⟩ := Oper.apart_spec hap
    rcases hl with hl | hl
    · exact a1 t hd hl
    · exact a2 t hd hl
  · refine .inr ⟨h, (pair j i oj oi h hlj hj hi).resolve_right fun hap => ?_⟩
    obtain ⟨a1, a2, a3⟩ := Oper.apart_spec hap
    rcases hl with hl | hl
    · exact a3 t hd hl
    · exact a2 t hl hd

def Closed (bef : List Nat) (D : Nat → Bool) : Prop := ∀ j k, D j = true → (befN bef j).testBit k = true → D k = true

section
variable {E1 : List Ent} {e : Ent} {E2 : List Ent} {r r' : RSt} {D : Nat → Bool}

/-- What an operation looks at is the same, whatever has come up beside it. -/
theorem val_at (h : Chain r (E1 ++ e :: E2) r') (h0 : r.done = 0) (hf : ∀ x ∈ E1 ++ e :: E2, Fact P gl call ops bef x) (ha : apartOk ops bef = true) (hD : Closed bef D) (he : D e.i = false) (hb : ∀ k, (befN bef e.i).testBit k = true → D k = true)
    {t : Tmp} (ht : t ∈ e.o.looksAt ops ∨ e.o.dst = some t) : valD D t (E1 ++ e :: E2) (r.σ.T.get t) = e.p.σ.T.get t := by
  obtain ⟨o1, o2, o3, o4, o5⟩ := order_facts h h0 hf
  obtain ⟨c1, c2⟩ := h.split
  have fe := hf e (List.mem_append.2 (.inr (List.mem_cons.2 (.inl rfl))))
  rw [valD_append]
  have g1 : valD D t E1 (r.σ.T.get t) = e.p.σ.T.get t := by
    rw [c1.val (fun x hx => hf x (List.mem_append.2 (.inl hx))) t]
    refine valD_congr fun x hx hd => ?_
    rcases share ha fe.op (hf x (List.mem_append.2 (.inl hx))).op (o1 x hx) hd ht with ⟨_, hs⟩ | ⟨_, hs⟩
    · rw [hb _ hs]
    · rw [o4 x hx] at hs; cases hs
  rw [g1]
  simp only [valD]
  rw [if_neg (fun hh => by rw [he] at hh; cases hh.1)]
  refine valD_none fun x hx hd => ?_
  cases hx2 : D x.i with
  | false => rfl
  | true =>
    rcases share ha fe.op (hf x (List.mem_append.2 (.inr (List.mem_cons.2 (.inr hx))))).op (o2 x hx) hd ht with ⟨_, hs⟩ | ⟨_, hs⟩
    · rw [o5 x hx] at hs; cases hs
    · rw [hD _ _ hx2 hs] at he; cases he

/-- Behind the operation. -/
theorem val_after (h : Chain r (E1 ++ e :: E2) r') (h0 : r.done = 0) (hf : ∀ x ∈ E1 ++ e :: E2, Fact P gl call ops bef x) (ha : apartOk ops bef = true) (hD : Closed bef D) (he : D e.i = false) (t : Tmp) :
    valD (fun j => D j || j == e.i) t (E1 ++ e :: E2) (r.σ.T.get t) = if e.o.dst = some t then e.q.σ.T.get t else valD D t (E1 ++ e :: E2) (r.σ.T.get t) := by
  obtain ⟨o1, o2, o3, o4, o5⟩ := order_facts h h0 hf
  have fe := hf e (List.mem_append.2 (.inr (List.mem_cons.2 (.inl rfl))))
  have same : ∀ x ∈ E1 ++ E2, (D x.i || x.i == e.i) = D x.i := fun x hx => by
    have : x.i ≠ e.i := (List.mem_append.1 hx).elim (o1 x) (o2 x)
    have : (x.i == e.i) = false := by simpa using this
    rw [this, Bool.or_false]
  rw [valD_append, valD_append]
  rw [valD_congr (D1 := fun j => D j || j == e.i) (D2 := D) (fun x hx _ => same x (List.mem_append.2 (.inl hx)))]
  simp only [valD]
  have hei : (D e.i || e.i == e.i) = true := by simp
  by_cases hd : e.o.dst = some t
  · rw [if_pos ⟨hei, hd⟩, if_pos hd]
    refine valD_none fun x hx hdx => ?_
    rw [same x (List.mem_append.2 (.inr hx))]
    cases hx2 : D x.i with
    | false => rfl
    | true =>
      rcases share ha fe.op (hf x (List.mem_append.2 (.inr (List.mem_cons.2 (.inr hx))))).op (o2 x hx) hdx (.inr hd) with ⟨_, hs⟩ | ⟨_, hs⟩
      · rw [o5 x hx] at hs; cases hs
      · rw [hD _ _ hx2 hs] at he; cases he
  · rw [if_neg (fun hh => hd hh.2), if_neg hd, if_neg (fun hh => hd hh.2)]
    exact valD_congr fun x hx _ => same x (List.mem_append.2 (.inr hx))

/-- The operations that may change the heap come up one behind the other. -/
theorem eff_in : ∀ {E : List Ent} {r r' : RSt}, Chain r E r' → (∀ x ∈ E, Fact P gl call ops bef x) → Closed bef D → (∀ l, r'.last = some l → D l = true) → (∀ x ∈ E, effE P ops x = true → D x.i = true) ∧ (∀ l, r.last = some l → D l = true) := by
  intro E
  induction E with
  | nil => intro r r' h _ _ hl; have : r' = r := h; subst this; exact ⟨fun x hx => by simp at hx, hl⟩
  | cons e E ih =>
    intro r r' h hf hD hl
    obtain ⟨h1, h2⟩ := h
    subst h1
    obtain ⟨g1, g2⟩ := ih h2 (fun x hx => hf x (List.mem_cons.2 (.inr hx))) hD hl
    have hok : ∀ {l : Option Nat}, lastOk (befN bef e.i) l = true → D e.i = true → ∀ k, l = some k → D k = true := fun hl hd k hk => by
      subst hk
      exact hD _ _ hd hl
    have noteff : e.q.last = e.p.last → effE P ops e = false → (∀ x ∈ e :: E, effE P ops x = true → D x.i = true) ∧ (∀ l, e.p.last = some l → D l = true) := fun hq hn =>
      ⟨fun x hx hxe => by
        rcases List.mem_cons.1 hx with rfl | hx
        · rw [hn] at hxe; cases hxe
        · exact g1 x hx hxe, fun l hl => g2 l (by rw [hq]; exact hl)⟩
    cases (hf e (List.mem_cons.2 (.inl rfl))).kind with
    | skip hw hs hl hr => exact noteff hl (by unfold effE; rw [hw])
    | pur hw hc hs hl hr => exact noteff hl (by unfold effE; rw [hw, hc]; rfl)
    | rd hw hc hok hs hl hr => exact noteff hl (by unfold effE; rw [hw, hc]; rfl)
    | eff hw hc hok' hl σ1 hlk hs hq hll hr =>
      have hde := g2 _ hll
      exact ⟨fun x hx hxe => by
        rcases List.mem_cons.1 hx with rfl | hx
        · exact hde
        · exact g1 x hx hxe, hok hok' hde⟩

theorem last_in {i : Nat} {l : Option Nat} (hok : lastOk (befN bef i) l = true) (hb : ∀ k, (befN bef i).testBit k = true → D k = true) : ∀ k, l = some k → D k = true := fun k hk => by
  subst hk
  exact hb k hok

theorem eff_later (h : Chain r (E1 ++ e :: E2) r') (hf : ∀ x ∈ E1 ++ e :: E2, Fact P gl call ops bef x) (hD : Closed bef D) {F1 F2 : List Ent} {x : Ent} (hE : E2 = F1 ++ x :: F2) (hx : effE P ops x = true) (hdx : D x.i = true) :
    (effE P ops e = true → D e.i = true) ∧ (∀ y ∈ F1, effE P ops y = true → D y.i = true) := by
  obtain ⟨c1, c2⟩ := h.split
  subst hE
  obtain ⟨c3, c4⟩ := c2.split
  have fx := hf x (List.mem_append.2 (.inr (List.mem_cons.2 (.inr (List.mem_append.2 (.inr (List.mem_cons.2 (.inl rfl))))))))
  have hc : Chain e.p (e :: F1) x.p := ⟨rfl, c3⟩
  have hfc : ∀ y ∈ e :: F1, Fact P gl call ops bef y := fun y hy => hf y (List.mem_append.2 (.inr (by
    rcases List.mem_cons.1 hy with rfl | hy
    · exact List.mem_cons.2 (.inl rfl)
    · exact List.mem_cons.2 (.inr (List.mem_append.2 (.inl hy))))))
  have hl : ∀ l, x.p.last = some l → D l = true := by
    cases fx.kind with
    | skip hw hs hl hr => unfold effE at hx; rw [hw] at hx; cases hx
    | pur hw hc hs hl hr => unfold effE at hx; rw [hw, hc] at hx; cases hx
    | rd hw hc hok hs hl hr => unfold effE at hx; rw [hw, hc] at hx; cases hx
    | eff hw hc hok hl σ1 hlk hs hq hll hr => exact last_in hok fun k hk => hD _ _ hdx hk
  obtain ⟨g1, _⟩ := eff_in hc hfc hD hl
  exact ⟨fun he => g1 e (List.mem_cons.2 (.inl rfl)) he, fun y hy hye => g1 y (List.mem_cons.2 (.inr hy)) hye⟩

/-- An operation that may change the heap finds it as in the trace. -/
theorem hds_at (h : Chain r (E1 ++ e :: E2) r') (hf : ∀ x ∈ E1 ++ e :: E2, Fact P gl call ops bef x) (hD : Closed bef D) (he : D e.i = false) (hl : ∀ l, e.p.last = some l → D l = true) (hee : effE P ops e = true) :
    hdsD P ops D (E1 ++ e :: E2) (r.σ.h, r.σ.ds) = (e.p.σ.h, e.p.σ.ds) ∧ hdsD P ops (fun j => D j || j == e.i) (E1 ++ e :: E2) (r.σ.h, r.σ.ds) = (e.q.σ.h, e.q.σ.ds) := by
  obtain ⟨c1, c2⟩ := h.split
  have f1 : ∀ x ∈ E1, Fact P gl call ops bef x := fun x hx => hf x (List.mem_append.2 (.inl hx))
  obtain ⟨g1, _⟩ := eff_in c1 f1 hD hl
  have later : ∀ x ∈ E2, effE P ops x = true → D x.i = false := fun x hx hxe => by
    obtain ⟨F1, F2, hE⟩ := List.append_of_mem hx
    cases hdx : D x.i with
    | false => rfl
    | true => rw [(eff_later h hf hD hE hxe hdx).1 hee] at he; cases he
  have a1 : hdsD P ops D E1 (r.σ.h, r.σ.ds) = (e.p.σ.h, e.p.σ.ds) := by
    rw [c1.hds f1]
    exact hdsD_congr fun x hx hxe => g1 x hx hxe
  have a2 : hdsD P ops (fun j => D j || j == e.i) E1 (r.σ.h, r.σ.ds) = (e.p.σ.h, e.p.σ.ds) := by
    rw [c1.hds f1]
    exact hdsD_congr fun x hx hxe => by rw [g1 x hx hxe]; rfl
  refine ⟨?_, ?_⟩
  · rw [hdsD_append, a1]
    simp only [hdsD]
    rw [if_neg (fun hh => by rw [he] at hh; cases hh.1)]
    exact hdsD_none later
  · rw [hdsD_append, a2]
    simp only [hdsD]
    rw [if_pos ⟨by simp, hee⟩]
    refine hdsD_none fun x hx hxe => ?_
    rw [later x hx hxe]
    have : x.i ≠ e.i := fun heq => ?_
    · simpa using this
    · have fx := hf x (List.mem_append.2 (.inr (List.mem_cons.2 (.inr hx))))
      obtain ⟨F1, F2, rfl⟩ := List.append_of_mem hx
      obtain ⟨c3, c4⟩ := c2.split
      have hn := fx.new
      have hd := (c3.done (fun y hy => hf y (List.mem_append.2 (.inr (List.mem_cons.2 (.inr (List.mem_append.2 (.inl hy))))))) x.i).2
      have fe := hf e (List.mem_append.2 (.inr (List.mem_cons.2 (.inl rfl))))
      rw [hd (.inl (by rw [fe.done, testBit_done, heq]; simp))] at hn
      cases hn

/-- What is read is as in the trace. -/
theorem hds_get {b : Nat} : ∀ {E : List Ent} {c c' : RSt} {ds : List (FuncId × List Value)}, Chain c E c' → (∀ x ∈ E, Fact P gl call ops bef x) → Closed bef D →
    (∀ x ∈ E, effE P ops x = true → D x.i = true → x.q.σ.h.get b = x.p.σ.h.get b) →
    (∀ F1 x F2, E = F1 ++ x :: F2 → effE P ops x = true → D x.i = true → ∀ y ∈ F1, effE P ops y = true → D y.i = true) →
    ∀ h, h = c.σ.h → (hdsD P ops D E (h, ds)).1.get b = c.σ.h.get b := by
  intro E
  induction E with
  | nil => intro c c' ds _ _ _ _ _ h hh; subst hh; rfl
  | cons e E ih =>
    intro c c' ds hc hf hD hk hp h hh
    obtain ⟨h1, h2⟩ := hc
    subst h1
    subst hh
    simp only [hdsD]
    have hf' : ∀ x ∈ E, Fact P gl call ops bef x := fun x hx => hf x (List.mem_cons.2 (.inr hx))
    have hk' : ∀ x ∈ E, effE P ops x = true → D x.i = true → x.q.σ.h.get b = x.p.σ.h.get b := fun x hx => hk x (List.mem_cons.2 (.inr hx))
    have hp' : ∀ F1 x F2, E = F1 ++ x :: F2 → effE P ops x = true → D x.i = true → ∀ y ∈ F1, effE P ops y = true → D y.i = true := fun F1 x F2 hE hx hd y hy =>
      hp (e :: F1) x F2 (by rw [hE]; rfl) hx hd y (List.mem_cons.2 (.inr hy))
    by_cases hee : effE P ops e = true
    · by_cases hde : D e.i = true
      · rw [if_pos ⟨hde, hee⟩, ih h2 hf' hD hk' hp' _ rfl]
        exact hk e (List.mem_cons.2 (.inl rfl)) hee hde
      · rw [if_neg (fun hh => hde hh.1), hdsD_none fun x hx hxe => ?_]
        cases hdx : D x.i with
        | false => rfl
        | true =>
          obtain ⟨F1, F2, hE⟩ := List.append_of_mem hx
          exact absurd (hp (e :: F1) x F2 (by rw [hE]; rfl) hxe hdx e (List.mem_cons.2 (.inl rfl)) hee) hde
    · rw [if_neg (fun hh => hee hh.2)]
      have hq := ((hf e (List.mem_cons.2 (.inl rfl))).keeps.2.2 (by simpa using hee)).1
      rw [ih h2 hf' hD hk' hp' _ hq.symm, hq]

theorem rds_grow : ∀ {E : List Ent} {c c' : RSt}, Chain c E c' → (∀ x ∈ E, Fact P gl call ops bef x) → ∀ y ∈ c.rds, y ∈ c'.rds := by
  intro E
  induction E with
  | nil => intro c c' h _ y hy; have : c' = c := h; subst this; exact hy
  | cons e E ih =>
    intro c c' h hf y hy
    obtain ⟨h1, h2⟩ := h
    subst h1
    refine ih h2 (fun x hx => hf x (List.mem_cons.2 (.inr hx))) y ?_
    cases (hf e (List.mem_cons.2 (.inl rfl))).kind with
    | skip hw hs hl hr => rw [hr]; exact hy
    | pur hw hc hs hl hr => rw [hr]; exact hy
    | rd hw hc hok hs hl hr =>
      rw [hr]
      split
      · exact List.mem_cons.2 (.inr hy)
      · exact hy
    | eff hw hc hok hl σ1 hlk hs hq hll hr => rw [hr]; exact hy

theorem rd_at (h : Chain r (E1 ++ e :: E2) r') (hf : ∀ x ∈ E1 ++ e :: E2, Fact P gl call ops bef x) (hD : Closed bef D) (he : D e.i = false) (hl : ∀ l, e.p.last = some l → D l = true) (hne : effE P ops e = false)
    {b : Nat} (hrd : (e.i, b) ∈ e.q.rds) : (hdsD P ops D (E1 ++ e :: E2) (r.σ.h, r.σ.ds)).1.get b = e.p.σ.h.get b := by
  obtain ⟨c1, c2⟩ := h.split
  have f1 : ∀ x ∈ E1, Fact P gl call ops bef x := fun x hx => hf x (List.mem_append.2 (.inl hx))
  have fe := hf e (List.mem_append.2 (.inr (List.mem_cons.2 (.inl rfl))))
  have f2 : ∀ x ∈ E2, Fact P gl call ops bef x := fun x hx => hf x (List.mem_append.2 (.inr (List.mem_cons.2 (.inr hx))))
  obtain ⟨g1, _⟩ := eff_in c1 f1 hD hl
  have a1 : hdsD P ops D E1 (r.σ.h, r.σ.ds) = (e.p.σ.h, e.p.σ.ds) := by
    rw [c1.hds f1]
    exact hdsD_congr fun x hx hxe => g1 x hx hxe
  obtain ⟨k1, k2⟩ := fe.keeps.2.2 hne
  rw [hdsD_append, a1]
  simp only [hdsD]
  rw [if_neg (fun hh => by rw [he] at hh; cases hh.1)]
  rw [hds_get c2 f2 hD (fun x hx hxe hdx => ?_) (fun F1 x F2 hE hxe hdx => (eff_later h hf hD hE hxe hdx).2) _ k1.symm, k1]
  obtain ⟨F1, F2, hE⟩ := List.append_of_mem hx
  have hmem : (e.i, b) ∈ x.p.rds := by
    subst hE
    obtain ⟨c3, _⟩ := c2.split
    exact rds_grow c3 (fun y hy => f2 y (List.mem_append.2 (.inl hy))) _ hrd
  have hnb : (befN bef x.i).testBit e.i = false := by
    cases hb : (befN bef x.i).testBit e.i with
    | false => rfl
    | true => rw [hD _ _ hdx hb] at he; cases he
  cases (f2 x hx).kind with
  | skip hw hs hl hr => unfold effE at hxe; rw [hw] at hxe; cases hxe
  | pur hw hc hs hl hr => unfold effE at hxe; rw [hw, hc] at hxe; cases hxe
  | rd hw hc hok hs hl hr => unfold effE at hxe; rw [hw, hc] at hxe; cases hxe
  | eff hw hc hok hl σ1 hlk hs hq hll hr =>
    rw [hq]
    refine (unlockAll_get x.p.σ.h _ σ1.h).2.1 b (List.mem_map.2 ⟨(e.i, b), List.mem_filter.2 ⟨hmem, ?_⟩, rfl⟩)
    rw [hnb]; rfl
end

end Go.Proofs.YtachednafdmmaaaDoor.AI
