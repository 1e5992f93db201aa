/- The abstract interpreter: regions whose order is drawn, where rows may be made at any time: how they are run. -/
import Derived.Test.YtachednafdmmaaaDoorAInc
namespace Go.Proofs.YtachednafdmmaaaDoor.AI
open Go
set_option linter.unusedVariables false
set_option linter.unusedSimpArgs false

variable {P : Program} {gl : Nat → Option Nat} {call : CallA} {ops : Array Oper} {bef : List Nat}

def stepN (P : Program) (gl : Nat → Option Nat) (call : CallA) (ops : Array Oper) (bef : List Nat) (i : Nat) (r : RSt) : Option RSt :=
  match ops.toList[i]? with
  | none => none
  | some o => bif isNew o then
      (bif !Nat.beq (Nat.land (befN bef i) r.done) (befN bef i) || r.done.testBit i then none else
        bif r.rds.all fun x => !Nat.beq x.2 r.σ.h.next then (match stepA P gl call o r.σ with
          | some σ' => some ⟨σ', r.done ||| 2 ^ i, some i, r.rds⟩
          | none => none) else none)
    else stepR P gl call ops bef i r

def runN (P : Program) (gl : Nat → Option Nat) (call : CallA) (ops : Array Oper) (bef : List Nat) : List Nat → RSt → Option RSt
  | [], r => some r
  | i :: l, r => match stepN P gl call ops bef i r with
    | some r' => runN P gl call ops bef l r'
    | none => none

def isNewI (ops : Array Oper) (i : Nat) : Bool := match ops.toList[i]? with
  | some o => isNew o
  | none => false

/-- An order: what reads goes first, what makes a row last. -/
def orderN (P : Program) (ops : Array Oper) (bef : List Nat) : Nat → Nat → List Nat → List Nat
  | 0, _, _ => []
  | f + 1, done, left =>
    let ready := left.filter fun i => let b := (bef[i]?).getD 0; Nat.beq (Nat.land b done) b
    match ready.find? fun i => !isEff P ops i with
    | some i => i :: orderN P ops bef f (done ||| 2 ^ i) (left.filter fun j => !Nat.beq i j)
    | none => match ready.find? fun i => !isNewI ops i with
      | some i => i :: orderN P ops bef f (done ||| 2 ^ i) (left.filter fun j => !Nat.beq i j)
      | none => match ready with
        | i :: _ => i :: orderN P ops bef f (done ||| 2 ^ i) (left.filter fun j => !Nat.beq i j)
        | [] => []

/-- Who waits for a row waits for all that may change the heap ahead of it. -/
def newsOk (P : Program) (ops : Array Oper) (bef : List Nat) : List Nat → Nat → Bool
  | [], _ => true
  | e :: r, m => (!isNewI ops e || (List.range ops.size).all fun i => !(befN bef i).testBit e || Nat.beq (Nat.land (befN bef i) m) m) && newsOk P ops bef r (bif isEff P ops e then m ||| 2 ^ e else m)
def transOk (ops : Array Oper) (bef : List Nat) : Bool :=
  (List.range ops.size).all fun i => (List.range ops.size).all fun k => !(befN bef i).testBit k || Nat.beq (Nat.land (befN bef i) (befN bef k)) (befN bef k)
def dstOk (ops : Array Oper) (n : Nat) : Bool :=
  (List.range ops.size).all fun i => match ops.toList[i]? with
    | some o => !isNew o || (match o.dst with
      | some d => Nat.blt d n && (List.range ops.size).all fun j => Nat.beq j i || (match ops.toList[j]? with
        | some oj => (match oj.dst with
          | some d' => !Nat.beq d' d
          | none => true)
        | none => true)
      | none => false)
    | none => true
def regNok (P : Program) (ops : Array Oper) (bef ord : List Nat) (n : Nat) : Bool := regOk P ops bef ord && newsOk P ops bef ord 0 && transOk ops bef && dstOk ops n
/-- Where the rows' places are kept. -/
def newDs : List Oper → List Tmp
  | [] => []
  | o :: r => bif isNew o then (match o.dst with
    | some d => d :: newDs r
    | none => newDs r) else newDs r
def clearL : List Tmp → Tr Value → Tr Value
  | [], T => T
  | d :: r, T => clearL r (T.set d none)

def regN (P : Program) (gl : Nat → Option Nat) (call : CallA) (ops : Array Oper) (bef ord : List Nat) (σ : St) : Option St :=
  bif regNok P ops bef ord σ.n then match runN P gl call ops bef ord ⟨{ σ with T := clearL (newDs ops.toList) σ.T }, 0, none, []⟩ with
    | some r => some r.σ
    | none => none
  else none

theorem clearL_get : ∀ (l : List Tmp) (T : Tr Value) (t : Tmp), (clearL l T).get t = none ∨ (t ∉ l ∧ (clearL l T).get t = T.get t) := by
  intro l
  induction l with
  | nil => intro T t; exact .inr ⟨by simp, rfl⟩
  | cons d l ih =>
    intro T t
    rcases ih (T.set d none) t with h | ⟨h1, h2⟩
    · exact .inl h
    · rw [Tr.get_set] at h2
      split at h2
      · exact .inl h2
      · rename_i hne
        exact .inr ⟨by simp only [List.mem_cons, not_or]; exact ⟨hne, h1⟩, h2⟩

theorem newDs_mem : ∀ {l : List Oper} {o : Oper} {d : Tmp}, o ∈ l → isNew o = true → o.dst = some d → d ∈ newDs l := by
  intro l
  induction l with
  | nil => intro o d h; cases h
  | cons x l ih =>
    intro o d h hn hd
    unfold newDs
    rcases List.mem_cons.1 h with rfl | h
    · rw [hn, hd]; simp
    · have := ih h hn hd
      cases isNew x with
      | false => exact this
      | true =>
        simp only [cond_true]
        split
        · exact List.mem_cons.2 (.inr this)
        · exact this

theorem stepN_fact {i : Nat} {r r' : RSt} (h : stepN P gl call ops bef i r = some r') : ∃ o, N.Fact P gl call ops bef ⟨i, o, r, r'⟩ := by
  unfold stepN at h
  split at h
  · cases h
  · rename_i o ho
    cases hn : isNew o with
    | true =>
      rw [hn] at h
      simp only [cond_true] at h
      cases hc : (!Nat.beq (Nat.land (befN bef i) r.done) (befN bef i) || r.done.testBit i) with
      | true => rw [hc] at h; cases h
      | false =>
        rw [hc] at h
        simp only [cond_false] at h
        simp only [Bool.or_eq_false_iff, Bool.not_eq_false'] at hc
        have hsub : ∀ k, (befN bef i).testBit k = true → r.done.testBit k = true := fun k hk => by
          have e1 := Nat.eq_of_beq_eq_true hc.1
          have e2 : (befN bef i &&& r.done) = befN bef i := e1
          rw [← e2, Nat.testBit_and, Bool.and_eq_true] at hk
          exact hk.2
        cases hr : r.rds.all fun x => !Nat.beq x.2 r.σ.h.next with
        | false => rw [hr] at h; cases h
        | true =>
          rw [hr] at h
          simp only [cond_true] at h
          split at h
          · rename_i σ' hs
            cases h
            refine ⟨o, ho, hsub, hc.2, rfl, .new hn hs (fun x hx he => ?_) rfl rfl⟩
            rw [List.all_eq_true] at hr
            have := hr x hx
            rw [he, Nat.beq_refl] at this
            cases this
          · cases h
    | false =>
      rw [hn] at h
      simp only [cond_false] at h
      obtain ⟨o', f⟩ := stepR_fact h
      have : o' = o := by have := f.op; dsimp only at this; rw [ho] at this; exact (Option.some.inj this).symm
      subst this
      refine ⟨o', f.op, f.sub, f.new, f.done, ?_⟩
      cases f.kind with
      | skip hw hs hl hr => exact .skip hw hs hl hr
      | pur hw hc hs hl hr => exact .pur hw hc hs hl hr
      | rd hw hc hok hs hl hr => exact .rd hw hc hok hs hl hr
      | eff hw hc hok hl σ1 h1 hs hq hll hr => exact .eff hn hw hc hok hl σ1 h1 hs hq hll hr

theorem runN_chain : ∀ (l : List Nat) (r r' : RSt), runN P gl call ops bef l r = some r' → ∃ E : List Ent, E.map (·.i) = l ∧ (∀ e ∈ E, N.Fact P gl call ops bef e) ∧ N.Chain r E r' := by
  intro l
  induction l with
  | nil => intro r r' h; cases h; exact ⟨[], rfl, fun e he => by simp at he, rfl⟩
  | cons i l ih =>
    intro r r' h
    simp only [runN] at h
    split at h
    · rename_i r1 h1
      obtain ⟨o, hf⟩ := stepN_fact h1
      obtain ⟨E, e1, e2, e3⟩ := ih r1 r' h
      refine ⟨⟨i, o, r, r1⟩ :: E, by simp [e1], fun e he => ?_, rfl, e3⟩
      rcases List.mem_cons.1 he with rfl | he
      · exact hf
      · exact e2 e he
    · cases h

theorem land_sub {b m : Nat} (h : Nat.beq (Nat.land b m) m = true) {k : Nat} (hk : m.testBit k = true) : b.testBit k = true := by
  have e1 := Nat.eq_of_beq_eq_true h
  have e2 : (b &&& m) = m := e1
  rw [← e2, Nat.testBit_and, Bool.and_eq_true] at hk
  exact hk.1

theorem news_last : ∀ {E : List Ent} {r r' : RSt} {m : Nat}, N.Chain r E r' → (∀ e ∈ E, N.Fact P gl call ops bef e) → newsOk P ops bef (E.map (·.i)) m = true → (∀ l, r.last = some l → m.testBit l = true) →
    ∀ e ∈ E, isNew e.o = true → ∀ i, i < ops.size → (befN bef i).testBit e.i = true → ∀ l, e.p.last = some l → (befN bef i).testBit l = true := by
  intro E
  induction E with
  | nil => intro r r' m _ _ _ _ e he; cases he
  | cons x E ih =>
    intro r r' m hch hf hok hl e he hn i hi hb l hel
    obtain ⟨h1, h2⟩ := hch
    subst h1
    simp only [List.map_cons, newsOk, Bool.and_eq_true] at hok
    obtain ⟨hok1, hok2⟩ := hok
    have fx := hf x (by simp)
    have ho : ops.toList[x.i]? = some x.o := fx.op
    rcases List.mem_cons.1 he with rfl | he
    · have hni : isNewI ops e.i = true := by unfold isNewI; rw [ho]; exact hn
      rw [hni] at hok1
      simp only [Bool.not_true, Bool.false_or] at hok1
      rw [List.all_eq_true] at hok1
      have := hok1 i (List.mem_range.2 hi)
      rw [hb] at this
      simp only [Bool.not_true, Bool.false_or] at this
      exact land_sub this (hl l hel)
    · refine ih h2 (fun y hy => hf y (by simp [hy])) hok2 (fun l hq => ?_) e he hn i hi hb l hel
      have grow : ∀ k, m.testBit k = true → (bif isEff P ops x.i then m ||| 2 ^ x.i else m).testBit k = true := fun k hk => by
        cases isEff P ops x.i with
        | false => exact hk
        | true => simp only [cond_true, Nat.testBit_or, hk, Bool.true_or]
      have self : 2 ≤ clsA P x.o.op → (bif isEff P ops x.i then m ||| 2 ^ x.i else m).testBit x.i = true := fun hc => by
        have : isEff P ops x.i = true := by unfold isEff; rw [ho]; exact Nat.ble_eq_true_of_le hc
        rw [this]
        simp only [cond_true, Nat.testBit_or, Nat.testBit_two_pow]
        simp
      cases fx.kind with
      | skip hw hs hll hr => rw [hll] at hq; exact grow l (hl l hq)
      | pur hw hc hs hll hr => rw [hll] at hq; exact grow l (hl l hq)
      | rd hw hc hok hs hll hr => rw [hll] at hq; exact grow l (hl l hq)
      | eff hnn hw hc hok hlx σ1 hlk hs hqq hll hr => rw [hll] at hq; cases hq; exact self hc
      | new hnn hs hff hll hr => rw [hll] at hq; cases hq; exact self (by rw [(isNew_some (P := P) hnn).2.2.1]; decide)

theorem regN_ok (hm : P.follows .mixedOrders = true) {call : CallA} (hcall : CallOK P gl call) {id : Nat} {ops : Array Oper} {bef ord : List Nat} {σ σ' : St} (hr : regN P gl call ops bef ord σ = some σ') {μ : Mu} {a : Act} {w : World} (hs : SRel gl μ σ a w) :
    (Code.region id ops true).wp P (PostA gl μ σ.h w .normal σ') a w := by
  unfold regN at hr
  cases hok : regNok P ops bef ord σ.n with
  | false => rw [hok] at hr; cases hr
  | true =>
    rw [hok] at hr
    simp only [cond_true] at hr
    split at hr
    · rename_i r hrun
      cases hr
      unfold regNok regOk at hok
      simp only [Bool.and_eq_true] at hok
      obtain ⟨⟨⟨⟨⟨hbef, hap⟩, hcov⟩, hnews⟩, htr⟩, hds⟩ := hok
      obtain ⟨E, h1, h2, h3⟩ := runN_chain ord _ _ hrun
      have hdo : ∀ e ∈ E, isNew e.o = true → ∀ d, e.o.dst = some d → d < σ.n ∧ ∀ j oj, ops.toList[j]? = some oj → j ≠ e.i → oj.dst ≠ some d := by
        intro e he hn d hd
        have ho : ops.toList[e.i]? = some e.o := (h2 e he).op
        have hlt : e.i < ops.size := by
          rcases Nat.lt_or_ge e.i ops.toList.length with h | h
          · simpa using h
          · rw [List.getElem?_eq_none h] at ho; cases ho
        unfold dstOk at hds
        rw [List.all_eq_true] at hds
        have := hds e.i (List.mem_range.2 hlt)
        rw [ho] at this
        dsimp only at this
        rw [hn, hd] at this
        simp only [Bool.not_true, Bool.false_or, Bool.and_eq_true] at this
        refine ⟨Nat.le_of_ble_eq_true this.1, fun j oj hj hne hdj => ?_⟩
        have hltj : j < ops.size := by
          rcases Nat.lt_or_ge j ops.toList.length with h | h
          · simpa using h
          · rw [List.getElem?_eq_none h] at hj; cases hj
        have h5 := this.2
        rw [List.all_eq_true] at h5
        have := h5 j (List.mem_range.2 hltj)
        rw [hj] at this
        dsimp only at this
        rw [hdj] at this
        dsimp only at this
        rw [Nat.beq_refl] at this
        simp only [Bool.not_true, Bool.or_false] at this
        exact hne (Nat.eq_of_beq_eq_true this)
      refine wp_region_any hm ?_
      have hD : (fun j => (Array.replicate ops.size false).getD j false) = fun _ => false := by
        funext j
        simp only [Array.getD_eq_getD_getElem?, Array.getElem?_replicate]
        split <;> rfl
      refine N.simN (μ0 := μ) (h00 := σ.h) (w0 := { w with drawn := w.drawn + 1 }) h3 rfl rfl h2 (fun i hi => ?_) hbef hap hcall (news_last h3 h2 (by rw [h1]; exact hnews) (fun l hl => by cases hl)) (fun i hi j k hj hk => ?_) (fun e he hn x hx hne => ?_)
        (fun e he hn d hd => ?_) (fun e he hn d hd => (hdo e he hn d hd).1) (fun a' w' μ' k1 k2 => ⟨rfl, μ', k1, k2.drew⟩) ops.size (Array.replicate ops.size false) a _ (fun _ => false) (fun _ => 0) { σ with T := clearL (newDs ops.toList) σ.T } μ (by simp) ?_ ?_ ?_
      · rw [List.all_eq_true] at hcov
        have := hcov i (List.mem_range.2 (by simpa using hi))
        rw [List.any_eq_true] at this
        obtain ⟨j, hj, hji⟩ := this
        have := Nat.eq_of_beq_eq_true hji
        subst this
        rw [← h1] at hj
        obtain ⟨e, he, hei⟩ := List.mem_map.1 hj
        exact ⟨e, he, hei⟩
      · unfold transOk at htr
        rw [List.all_eq_true] at htr
        have := htr i (List.mem_range.2 hi)
        rw [List.all_eq_true] at this
        rcases Nat.lt_or_ge j ops.size with hjl | hjl
        · have := this j (List.mem_range.2 hjl)
          have hj' : (befN bef i).testBit j = true := hj
          rw [hj'] at this
          simp only [Bool.not_true, Bool.false_or] at this
          exact land_sub this hk
        · -- nothing waits for what is not there
          exfalso
          have ho : ∃ o, ops.toList[i]? = some o := ⟨_, List.getElem?_eq_getElem (by simpa using hi)⟩
          obtain ⟨o, ho⟩ := ho
          obtain ⟨e, he, hei⟩ : ∃ e ∈ E, e.i = i := by
            rw [List.all_eq_true] at hcov
            have := hcov i (List.mem_range.2 (by simpa using hi))
            rw [List.any_eq_true] at this
            obtain ⟨q, hq, hqi⟩ := this
            have := Nat.eq_of_beq_eq_true hqi
            subst this
            rw [← h1] at hq
            obtain ⟨e, he, hei⟩ := List.mem_map.1 hq
            exact ⟨e, he, hei⟩
          obtain ⟨E1, E2, hE⟩ := List.append_of_mem he
          have h3' := h3
          have h2' := h2
          rw [hE] at h3' h2'
          obtain ⟨_, _, o3, _⟩ := N.order_facts h3' rfl h2'
          obtain ⟨x, hx, hxi⟩ := List.mem_map.1 (o3 j (by rw [hei]; exact hj))
          have hox : ops.toList[x.i]? = some x.o := (h2' x (List.mem_append.2 (.inl hx))).op
          rw [hxi, List.getElem?_eq_none (by simpa using hjl)] at hox
          cases hox
      · obtain ⟨d, hd⟩ := (isNew_some (P := P) hn).2.1
        rw [hd]
        exact (hdo e he hn d hd).2 x.i x.o (h2 x hx).op hne
      · have hmem : e.o ∈ ops.toList := List.mem_of_getElem? (h2 e he).op
        rcases clearL_get (newDs ops.toList) σ.T d with h | ⟨h, _⟩
        · exact h
        · exact absurd (newDs_mem hmem hn hd) h
      · rw [hD]
        intro j k hj
        cases hj
      · have hcl : TRel μ σ.h.next (clearL (newDs ops.toList) σ.T) a.tmps := fun t v ht => by
          rcases clearL_get (newDs ops.toList) σ.T t with h | ⟨_, h⟩
          · rw [h] at ht; cases ht
          · rw [h] at ht; exact hs.tmps t v ht
        rw [hD]
        exact ⟨⟨fun t => (valD_none fun _ _ _ => rfl).symm, (hdsD_none fun _ _ _ => rfl).symm, rfl⟩, (fun j k hj => by cases hj), (fun j hj => by cases hj), (fun e he h => by cases h), (fun e he hn h => by cases h),
          ⟨hs.size, hcl, hs.heap.drew, hs.ds⟩, .refl _ _ _, (fun e he h => by cases h), (fun e he x hx h => by cases h)⟩
      · exact Nat.le_trans (List.length_filter_le _ _) (by simp)
    · cases hr

/-- A region whose order is drawn: by one way, or by the other. -/
def regF (P : Program) (gl : Nat → Option Nat) : CallA → Array Oper → St → Option St := fun call ops σ =>
  match (Region.before ops).toList with
  | bef => match List.range ops.toList.length with
    | all => match orderA P ops bef ops.toList.length 0 all with
      | ord => bif linOk P ops bef ord none then theReg P gl call ops σ
        else match orderN P ops bef ops.toList.length 0 all with
          | ordn => bif regNok P ops bef ordn σ.n then regN P gl call ops bef ordn σ else regF0 P gl call ops σ
theorem cond_some {α : Type} {b : Bool} {x y : Option α} {s : α} (h : (bif b then x else y) = some s) : x = some s ∨ y = some s := by
  cases b with
  | true => exact .inl h
  | false => exact .inr h
theorem regF_ok (hm : P.follows .mixedOrders = true) : RegOK P gl (regF P gl) := by
  intro call hcall id ops σ σ' hr μ a w hs
  unfold regF at hr
  dsimp only at hr
  rcases cond_some hr with h | h
  · exact theReg_ok hm call hcall id ops σ σ' h μ a w hs
  · rcases cond_some h with h | h
    · exact regN_ok hm hcall h hs
    · exact regF0_ok hm call hcall id ops σ σ' h μ a w hs

end Go.Proofs.YtachednafdmmaaaDoor.AI
