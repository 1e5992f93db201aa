/- The abstract interpreter: regions whose order is drawn are run soundly. -/
import Derived.Test.YtachednafdmmaaaDoorAIq
namespace Go.Proofs.YtachednafdmmaaaDoor.AI
open Go
set_option linter.unusedVariables false
set_option linter.unusedSimpArgs false

variable {P : Program} {gl : Nat → Option Nat} {call : CallA} {ops : Array Oper} {bef : List Nat}

theorem length_filter_lt {α : Type} {p q : α → Bool} : ∀ {l : List α}, (∀ x ∈ l, q x = true → p x = true) → ∀ {y : α}, y ∈ l → p y = true → q y = false → (l.filter q).length < (l.filter p).length := by
  intro l
  induction l with
  | nil => intro _ y hy; simp at hy
  | cons x l ih =>
    intro h y hy hp hq
    have hle : ∀ {m : List α}, (∀ x ∈ m, q x = true → p x = true) → (m.filter q).length ≤ (m.filter p).length := by
      intro m
      induction m with
      | nil => intro _; exact Nat.le_refl _
      | cons z m ihm =>
        intro hm
        have := ihm fun u hu => hm u (List.mem_cons.2 (.inr hu))
        by_cases hz : q z = true
        · rw [List.filter_cons_of_pos hz, List.filter_cons_of_pos (hm z (List.mem_cons.2 (.inl rfl)) hz)]
          simp only [List.length_cons]; omega
        · rw [List.filter_cons_of_neg hz]
          by_cases hz2 : p z = true
          · rw [List.filter_cons_of_pos hz2]; simp only [List.length_cons]; omega
          · rw [List.filter_cons_of_neg hz2]; exact this
    rcases List.mem_cons.1 hy with rfl | hy'
    · rw [List.filter_cons_of_neg (by rw [hq]; simp), List.filter_cons_of_pos hp]
      have := hle fun u hu => h u (List.mem_cons.2 (.inr hu))
      simp only [List.length_cons]; omega
    · have := ih (fun u hu => h u (List.mem_cons.2 (.inr hu))) hy' hp hq
      by_cases hz : q x = true
      · rw [List.filter_cons_of_pos hz, List.filter_cons_of_pos (h x (List.mem_cons.2 (.inl rfl)) hz)]
        simp only [List.length_cons]; omega
      · rw [List.filter_cons_of_neg hz]
        by_cases hz2 : p x = true
        · rw [List.filter_cons_of_pos hz2]; simp only [List.length_cons]; omega
        · rw [List.filter_cons_of_neg hz2]; exact this

theorem exists_first {D : Nat → Bool} : ∀ {E : List Ent}, (∃ e ∈ E, D e.i = false) → ∃ E1 e E2, E = E1 ++ e :: E2 ∧ D e.i = false ∧ ∀ x ∈ E1, D x.i = true := by
  intro E
  induction E with
  | nil => rintro ⟨e, he, _⟩; simp at he
  | cons y E ih =>
    rintro ⟨e, he, hd⟩
    cases hy : D y.i with
    | false => exact ⟨[], y, E, rfl, hy, fun x hx => by simp at hx⟩
    | true =>
      have : ∃ e ∈ E, D e.i = false := by
        rcases List.mem_cons.1 he with rfl | he
        · rw [hy] at hd; cases hd
        · exact ⟨e, he, hd⟩
      obtain ⟨E1, e', E2, h1, h2, h3⟩ := ih this
      refine ⟨y :: E1, e', E2, by rw [h1]; rfl, h2, fun x hx => ?_⟩
      rcases List.mem_cons.1 hx with rfl | hx
      · exact hy
      · exact h3 x hx

theorem fold_bit (f : Nat → Nat) (k : Nat) : ∀ (l : List Edge) (s : Nat), (l.foldl (fun s e => if Region.binds .any e then s ||| 2 ^ e.on ||| f e.on else s) s).testBit k = true ↔
    (s.testBit k = true ∨ ∃ e ∈ l, Region.binds .any e = true ∧ (e.on = k ∨ (f e.on).testBit k = true)) := by
  intro l
  induction l with
  | nil => intro s; simp
  | cons e l ih =>
    intro s
    rw [List.foldl_cons, ih]
    by_cases hb : Region.binds .any e = true
    · rw [if_pos hb]
      simp only [Nat.testBit_or, Nat.testBit_two_pow, Bool.or_eq_true, decide_eq_true_eq, List.mem_cons]
      constructor
      · rintro (((h | h) | h) | ⟨e', h1, h2⟩)
        · exact .inl h
        · exact .inr ⟨e, .inl rfl, hb, .inl h⟩
        · exact .inr ⟨e, .inl rfl, hb, .inr h⟩
        · exact .inr ⟨e', .inr h1, h2⟩
      · rintro (h | ⟨e', rfl | h1, h2, h3⟩)
        · exact .inl (.inl (.inl h))
        · rcases h3 with h3 | h3
          · exact .inl (.inl (.inr h3))
          · exact .inl (.inr h3)
        · exact .inr ⟨e', h1, h2, h3⟩
    · rw [if_neg hb]
      simp only [List.mem_cons]
      constructor
      · rintro (h | ⟨e', h1, h2⟩)
        · exact .inl h
        · exact .inr ⟨e', .inr h1, h2⟩
      · rintro (h | ⟨e', rfl | h1, h2, h3⟩)
        · exact .inl h
        · exact absurd h2 hb
        · exact .inr ⟨e', h1, h2, h3⟩

theorem bef_bit (hb : befOk ops bef = true) {i : Nat} {o : Oper} (ho : ops.toList[i]? = some o) (k : Nat) : (befN bef i).testBit k = true ↔ ∃ e ∈ o.after.toList, Region.binds .any e = true ∧ (e.on = k ∨ (befN bef e.on).testBit k = true) := by
  have hli : i < ops.toList.length := by
    rcases Nat.lt_or_ge i ops.toList.length with h | h
    · exact h
    · rw [List.getElem?_eq_none h] at ho; cases ho
  unfold befOk at hb
  rw [List.all_eq_true] at hb
  have := hb i (List.mem_range.2 hli)
  rw [ho] at this
  have h1 : befN bef i = _ := Nat.eq_of_beq_eq_true this
  rw [h1]
  have := fold_bit (befN bef) k o.after.toList 0
  rw [Nat.zero_testBit] at this
  simp only [Bool.false_eq_true, false_or] at this
  exact this

structure Inv (P : Program) (ops : Array Oper) (E : List Ent) (r0 : RSt) (D : Nat → Bool) (σ : St) : Prop where
  T : ∀ t, σ.T.get t = valD D t E (r0.σ.T.get t)
  hd : (σ.h, σ.ds) = hdsD P ops D E (r0.σ.h, r0.σ.ds)
  n : σ.n = r0.σ.n

theorem SRel.like {μ : Mu} {σ σ' : St} {a : Act} {w : World} (h : SRel gl μ σ a w) (hT : ∀ t, σ'.T.get t = σ.T.get t) (hh : σ'.h = σ.h) (hd : σ'.ds = σ.ds) (hn : σ'.n = σ.n) : SRel gl μ σ' a w :=
  ⟨by rw [hn]; exact h.size, fun t v ht => by rw [hh]; exact h.tmps t v (by rw [← hT]; exact ht), by rw [hh]; exact h.heap, by rw [hh, hd]; exact h.ds⟩

theorem getD_false {listed : Array Bool} {i : Nat} (hi : i < listed.size) : listed.getD i true = false ↔ listed.getD i false = false := by
  simp [Array.getD_eq_getD_getElem?, Array.getElem?_eq_getElem hi]

section
variable {E : List Ent} {r0 r' : RSt}

theorem sim (hch : Chain r0 E r') (h0 : r0.done = 0) (hf : ∀ x ∈ E, Fact P gl call ops bef x) (hcov : ∀ i, i < ops.size → ∃ e ∈ E, e.i = i) (hbef : befOk ops bef = true) (hap : apartOk ops bef = true) (hcall : CallOK P gl call)
    {Q : Exit → Act → World → Prop} : ∀ (fuel : Nat) (listed : Array Bool) (a : Act) (w : World) (μ : Mu) (σ : St), listed.size = ops.size → Inv P ops E r0 (fun j => listed.getD j false) σ → Closed bef (fun j => listed.getD j false) →
    SRel gl μ σ a w → ((List.range ops.size).filter fun j => !listed.getD j false).length ≤ fuel → (∀ a' w' μ', SRel gl μ' r'.σ a' w' → Fr μ σ.h w μ' r'.σ.h w' → Q .normal a' w') → wpAny P .any ops Q fuel listed a w := by
  -- nothing more may come up: all has
  have done : ∀ (listed : Array Bool) (a : Act) (w : World) (μ : Mu) (σ : St), listed.size = ops.size → Inv P ops E r0 (fun j => listed.getD j false) σ →
      SRel gl μ σ a w → (∀ a' w' μ', SRel gl μ' r'.σ a' w' → Fr μ σ.h w μ' r'.σ.h w' → Q .normal a' w') → Region.ready .any ops listed = [] → Q .normal a w := by
    intro listed a w μ σ hsz hinv hs hQ hready
    have hall : ∀ e ∈ E, listed.getD e.i false = true := by
      intro e he
      cases hd : listed.getD e.i false with
      | true => rfl
      | false =>
        exfalso
        obtain ⟨E1, e', E2, hE, h1, h2⟩ := exists_first (D := fun j => listed.getD j false) ⟨e, he, hd⟩
        subst hE
        obtain ⟨o1, o2, o3, o4, o5⟩ := order_facts hch h0 hf
        have fe := hf e' (List.mem_append.2 (.inr (List.mem_cons.2 (.inl rfl))))
        have hop : ops[e'.i]? = some e'.o := by rw [← Array.getElem?_toList]; exact fe.op
        have hlt : e'.i < listed.size := by rw [hsz]; exact (Array.getElem?_eq_some_iff.1 hop).1
        have hm : e'.i ∈ Region.ready .any ops listed := by
          rw [mem_ready]
          refine ⟨(getD_false hlt).2 h1, e'.o, hop, fun ed hed hbd => ?_⟩
          have hbit : (befN bef e'.i).testBit ed.on = true := (bef_bit hbef fe.op ed.on).2 ⟨ed, by simpa using hed, hbd, .inl rfl⟩
          obtain ⟨x, hx, hxi⟩ := List.mem_map.1 (o3 _ hbit)
          have := h2 x hx
          rw [hxi] at this
          exact this
        rw [hready] at hm
        simp at hm
    have hTr : ∀ t, r'.σ.T.get t = σ.T.get t := fun t => by
      rw [hinv.T t, hch.val hf t]
      exact valD_congr fun x hx _ => (hall x hx).symm
    have hhd : (r'.σ.h, r'.σ.ds) = (σ.h, σ.ds) := by
      rw [hinv.hd, hch.hds hf]
      exact hdsD_congr fun x hx _ => (hall x hx).symm
    have e1 : r'.σ.h = σ.h := (Prod.mk.inj hhd).1
    have e2 : r'.σ.ds = σ.ds := (Prod.mk.inj hhd).2
    exact hQ a w μ (hs.like hTr e1 e2 (by rw [hch.n hf, hinv.n])) (by rw [e1]; exact .refl _ _ _)
  intro fuel
  induction fuel with
  | zero =>
    intro listed a w μ σ hsz hinv hcl hs hle hQ
    have hready : Region.ready .any ops listed = [] := by
      cases hr : Region.ready .any ops listed with
      | nil => rfl
      | cons i l =>
        exfalso
        have hm : i ∈ Region.ready .any ops listed := by rw [hr]; simp
        rw [mem_ready] at hm
        obtain ⟨h1, o, h2, _⟩ := hm
        have hlt : i < ops.size := (Array.getElem?_eq_some_iff.1 h2).1
        have : i ∈ (List.range ops.size).filter fun j => !listed.getD j false := List.mem_filter.2 ⟨List.mem_range.2 hlt, by
          rw [(getD_false (by rw [hsz]; exact hlt)).1 h1]; rfl⟩
        have hl : ((List.range ops.size).filter fun j => !listed.getD j false) = [] := List.eq_nil_of_length_eq_zero (by omega)
        rw [hl] at this
        simp at this
    exact ⟨hready, done listed a w μ σ hsz hinv hs hQ hready⟩
  | succ fuel ih =>
    intro listed a w μ σ hsz hinv hcl hs hle hQ
    refine ⟨done listed a w μ σ hsz hinv hs hQ, fun i hi => ?_⟩
    rw [mem_ready] at hi
    obtain ⟨hi1, o, hio, hedges⟩ := hi
    have hlt : i < ops.size := (Array.getElem?_eq_some_iff.1 hio).1
    obtain ⟨e, heE, hei⟩ := hcov i hlt
    subst hei
    obtain ⟨E1, E2, hE⟩ := List.append_of_mem heE
    have fe := hf e heE
    have hop : ops[e.i]? = some e.o := by rw [← Array.getElem?_toList]; exact fe.op
    rw [hop] at hio
    cases hio
    have hDe : listed.getD e.i false = false := (getD_false (by rw [hsz]; exact hlt)).1 hi1
    have hb : ∀ k, (befN bef e.i).testBit k = true → listed.getD k false = true := fun k hk => by
      obtain ⟨ed, h1, h2, h3⟩ := (bef_bit hbef fe.op k).1 hk
      have h4 := hedges ed (by simpa using h1) h2
      rcases h3 with h3 | h3
      · rw [← h3]; exact h4
      · exact hcl _ _ h4 h3
    have hD' : (fun j => (listed.setIfInBounds e.i true).getD j false) = fun j => (fun j => listed.getD j false) j || j == e.i := by
      funext j
      by_cases hj : j = e.i
      · subst hj
        simp [Array.getD_eq_getD_getElem?, Array.getElem?_setIfInBounds_self_of_lt (show e.i < listed.size by rw [hsz]; exact hlt)]
      · have : (j == e.i) = false := by simpa using hj
        simp [Array.getD_eq_getD_getElem?, Array.getElem?_setIfInBounds_ne (fun h => hj h.symm : e.i ≠ j), this]
    have hcl' : Closed bef (fun j => (listed.setIfInBounds e.i true).getD j false) := by
      rw [hD']
      intro j k hj hk
      simp only [Bool.or_eq_true, beq_iff_eq] at hj ⊢
      rcases hj with hj | hj
      · exact .inl (hcl j k hj hk)
      · subst hj; exact .inl (hb k hk)
    have hle' : ((List.range ops.size).filter fun j => !(listed.setIfInBounds e.i true).getD j false).length ≤ fuel := by
      have hfun : (fun j => !(listed.setIfInBounds e.i true).getD j false) = fun j => !(listed.getD j false || j == e.i) := funext fun j => by rw [congrFun hD' j]
      rw [hfun]
      have := length_filter_lt (p := fun j => !listed.getD j false) (q := fun j => !(listed.getD j false || j == e.i)) (l := List.range ops.size)
        (fun x _ hx => by simp only [Bool.not_eq_true', Bool.or_eq_false_iff] at hx ⊢; exact hx.1) (y := e.i) (List.mem_range.2 hlt) (by rw [hDe]; rfl) (by simp)
      omega
    have hsz' : (listed.setIfInBounds e.i true).size = ops.size := by rw [Array.size_setIfInBounds]; exact hsz
    -- what it looks at
    have hch' := hch
    have hf' := hf
    rw [hE] at hch' hf'
    have hlook : ∀ t, t ∈ e.o.looksAt ops → σ.T.get t = e.p.σ.T.get t := fun t ht => by
      rw [hinv.T t, hE]
      exact val_at hch' h0 hf' hap hcl hDe hb (.inl ht)
    have hev : ∀ x ∈ e.o.op.operands, evA gl σ.T x = evA gl e.p.σ.T x := fun x hx => by
      cases x with
      | tmp t =>
        refine hlook t ?_
        unfold Oper.looksAt
        refine List.mem_append.2 (.inl (List.mem_filterMap.2 ⟨.tmp t, by simpa using hx, rfl⟩))
      | const v => rfl
      | global g => rfl
      | func f => rfl
    have hwant : wantA ops e.o σ.T = wantA ops e.o e.p.σ.T := by
      unfold wantA
      cases hg : e.o.guard with
      | none => rfl
      | some gw =>
        obtain ⟨j, want⟩ := gw
        dsimp only
        cases hj : ops.toList[j]? with
        | none => rfl
        | some oj =>
          dsimp only
          cases hd : oj.dst with
          | none => rfl
          | some d =>
            dsimp only
            rw [hlook d (by
              unfold Oper.looksAt
              refine List.mem_append.2 (.inr ?_)
              rw [hg]
              rw [Array.getElem?_toList] at hj
              simp [hj, hd])]
    have hval : ∀ {σ2 : St} {v : Value}, (∀ t, σ2.T.get t = if e.o.dst = some t then some v else σ.T.get t) → (∀ t, e.o.dst = some t → e.q.σ.T.get t = some v) →
        ∀ t, σ2.T.get t = valD (fun j => (listed.setIfInBounds e.i true).getD j false) t E (r0.σ.T.get t) := by
      intro σ2 v h1 h2 t
      rw [hD', hE, val_after hch' h0 hf' hap hcl hDe t, h1 t]
      by_cases hd : e.o.dst = some t
      · rw [if_pos hd, if_pos hd, h2 t hd]
      · rw [if_neg hd, if_neg hd, hinv.T t, hE]
    have hnoteff : effE P ops e = false → hdsD P ops (fun j => (listed.setIfInBounds e.i true).getD j false) E (r0.σ.h, r0.σ.ds) = (σ.h, σ.ds) := by
      intro hne
      rw [hinv.hd, hD']
      obtain ⟨o1, o2, _⟩ := order_facts hch' h0 hf'
      refine hdsD_congr fun x hx hxe => ?_
      have hxi : x.i ≠ e.i := by
        rw [hE] at hx
        rcases List.mem_append.1 hx with hx | hx
        · exact o1 x hx
        · rcases List.mem_cons.1 hx with rfl | hx
          · rw [hne] at hxe; cases hxe
          · exact o2 x hx
      have : (x.i == e.i) = false := by simpa using hxi
      simp [this]
    have next : ∀ (σ2 : St) (a' : Act) (w' : World) (μ' : Mu), Inv P ops E r0 (fun j => (listed.setIfInBounds e.i true).getD j false) σ2 → SRel gl μ' σ2 a' w' → Fr μ σ.h w μ' σ2.h w' →
        wpAny P .any ops Q fuel (listed.setIfInBounds e.i true) a' w' := fun σ2 a' w' μ' h1 h2 h3 =>
      ih _ a' w' μ' σ2 hsz' h1 hcl' h2 hle' fun a'' w'' μ'' h4 h5 => hQ a'' w'' μ'' h4 (h3.trans h5)
    unfold wpOp
    rw [hop]
    dsimp only
    cases fe.kind with
    | skip hw hsx hl hr =>
      rw [← hwant] at hw
      rw [wantA_ok hs hw, if_neg (by decide)]
      obtain ⟨σ2, hp⟩ := putA_of (σ := σ) (v := undef) hsx (by
        rw [hinv.n]; exact ((hch'.split.1).n (fun x hx => hf' x (List.mem_append.2 (.inl hx)))).symm)
      obtain ⟨k1, k2, k3⟩ := put_rel hp hs .undef
      obtain ⟨g1, g2, g3, g4⟩ := putA_get hp
      obtain ⟨q1, q2, q3, q4⟩ := putA_get hsx
      refine next σ2 _ w μ ⟨hval g4 (fun t ht => by rw [q4, if_pos ht]), ?_, by rw [g1, hinv.n]⟩ k1 (by rw [k2]; exact .refl _ _ _)
      rw [hnoteff (by unfold effE; rw [← hwant, hw]), g2, g3]
    | pur hw hc hsx hl hr =>
      rw [← hwant] at hw
      rw [wantA_ok hs hw, if_pos rfl]
      refine .inl ?_
      obtain ⟨v, h', d, hv, hp⟩ := stepA_open hsx
      obtain ⟨e1, e2, e3⟩ := pur_ok hc hv
      subst e1 e2
      have hv' : stepV P call (evA gl σ.T) σ.h e.o.op = some (v, σ.h, []) := by rw [stepV_congr σ.h e.o.op hev]; exact e3 σ.h
      obtain ⟨σ2, hp2⟩ := putA_of (σ := { σ with h := σ.h, ds := [] ++ σ.ds }) (v := v) hp (by
        show σ.n = e.p.σ.n
        rw [hinv.n]; exact ((hch'.split.1).n (fun x hx => hf' x (List.mem_append.2 (.inl hx)))).symm)
      have hst : stepA P gl call e.o σ = some σ2 := by rw [stepA_def]; rw [hv']; exact hp2
      obtain ⟨g1, g2, g3, g4⟩ := putA_get hp2
      obtain ⟨q1, q2, q3, q4⟩ := putA_get hp
      refine stepA_ok hcall hst hs fun a' w' μ' h1 h2 => next σ2 a' w' μ' ⟨hval g4 (fun t ht => by rw [q4, if_pos ht]), ?_, by rw [g1]; exact hinv.n⟩ h1 h2
      rw [hnoteff (by unfold effE; rw [← hwant, hw, hc]; rfl), g2, g3]; rfl
    | rd hw hc hok hsx hl hr =>
      rw [← hwant] at hw
      rw [wantA_ok hs hw, if_pos rfl]
      refine .inl ?_
      obtain ⟨v, h', d, hv, hp⟩ := stepA_open hsx
      obtain ⟨e1, e2, e3⟩ := rd_ok hc hv
      subst e1 e2
      have hne : effE P ops e = false := by unfold effE; rw [← hwant, hw, hc]; rfl
      have hget : ∀ b, rdBlk (evA gl e.p.σ.T) e.o.op = some b → σ.h.get b = e.p.σ.h.get b := fun b hbk => by
        have := rd_at hch' hf' hcl hDe (last_in hok hb) hne (b := b) (by rw [hr, hbk]; simp)
        rw [← hE, ← hinv.hd] at this
        exact this
      have hv' : stepV P call (evA gl σ.T) σ.h e.o.op = some (v, σ.h, []) := by rw [stepV_congr σ.h e.o.op hev]; exact e3 σ.h hget
      obtain ⟨σ2, hp2⟩ := putA_of (σ := { σ with h := σ.h, ds := [] ++ σ.ds }) (v := v) hp (by
        show σ.n = e.p.σ.n
        rw [hinv.n]; exact ((hch'.split.1).n (fun x hx => hf' x (List.mem_append.2 (.inl hx)))).symm)
      have hst : stepA P gl call e.o σ = some σ2 := by rw [stepA_def]; rw [hv']; exact hp2
      obtain ⟨g1, g2, g3, g4⟩ := putA_get hp2
      obtain ⟨q1, q2, q3, q4⟩ := putA_get hp
      refine stepA_ok hcall hst hs fun a' w' μ' h1 h2 => next σ2 a' w' μ' ⟨hval g4 (fun t ht => by rw [q4, if_pos ht]), ?_, by rw [g1]; exact hinv.n⟩ h1 h2
      rw [hnoteff hne, g2, g3]; rfl
    | eff hw hc hok hlx σ1 hlk hsx hq hll hr =>
      have hee : effE P ops e = true := by unfold effE; rw [hw]; exact Nat.ble_eq_true_of_le hc
      rw [← hwant] at hw
      rw [wantA_ok hs hw, if_pos rfl]
      refine .inl ?_
      obtain ⟨d1, d2⟩ := hds_at hch' hf' hcl hDe (last_in hok hb) hee
      rw [← hE, ← hinv.hd] at d1
      rw [← hE, ← hD'] at d2
      have eh : σ.h = e.p.σ.h := (Prod.mk.inj d1).1
      have ed : σ.ds = e.p.σ.ds := (Prod.mk.inj d1).2
      rw [← eh] at hlk
      obtain ⟨v, h', d, hv, hp⟩ := stepA_open hsx
      dsimp only at hv hp
      have hv' : stepV P call (evA gl σ.T) hlx e.o.op = some (v, h', d) := by rw [stepV_congr hlx e.o.op hev]; exact hv
      obtain ⟨σ2, hp2⟩ := putA_of (σ := { σ with h := h', ds := d ++ σ.ds }) (v := v) hp (by
        show σ.n = e.p.σ.n
        rw [hinv.n]; exact ((hch'.split.1).n (fun x hx => hf' x (List.mem_append.2 (.inl hx)))).symm)
      have hst : stepA P gl call e.o { σ with h := hlx } = some σ2 := by rw [stepA_def]; dsimp only; rw [hv']; exact hp2
      obtain ⟨g1, g2, g3, g4⟩ := putA_get hp2
      obtain ⟨q1, q2, q3, q4⟩ := putA_get hp
      have hnx := (lockAll_get _ _ _ hlk).1
      have hsl : SRel gl μ { σ with h := hlx } a w := ⟨hs.size, by show TRel μ hlx.next σ.T a.tmps; rw [hnx]; exact hs.tmps, lock_rel hlk hs.heap, by show DRel μ hlx.next σ.ds a.defers; rw [hnx]; exact hs.ds⟩
      refine stepA_ok hcall hst hsl fun a' w' μ' h1 h2 => ?_
      obtain ⟨u1, u2⟩ := unlock_rel hlk hs.heap h1.heap h2
      have un := (unlockAll_get σ.h ((e.p.rds.filter fun x => !(befN bef e.i).testBit x.1).map (·.2)) σ2.h).1
      refine next { σ2 with h := unlockAll σ.h ((e.p.rds.filter fun x => !(befN bef e.i).testBit x.1).map (·.2)) σ2.h } a' w' μ' ⟨?_, ?_, ?_⟩ ⟨h1.size, ?_, u1, ?_⟩ u2
      · exact hval (σ2 := { σ2 with h := unlockAll σ.h ((e.p.rds.filter fun x => !(befN bef e.i).testBit x.1).map (·.2)) σ2.h }) g4 (fun t ht => by rw [hq]; show σ1.T.get t = _; rw [q4, if_pos ht])
      · rw [d2, hq]
        show (unlockAll σ.h _ σ2.h, σ2.ds) = (unlockAll e.p.σ.h _ σ1.h, σ1.ds)
        rw [g2, g3, q2, q3, eh, ed]
      · show σ2.n = r0.σ.n
        rw [g1]; exact hinv.n
      · show TRel μ' (unlockAll σ.h _ σ2.h).next σ2.T a'.tmps
        rw [un]; exact h1.tmps
      · show DRel μ' (unlockAll σ.h _ σ2.h).next σ2.ds a'.defers
        rw [un]; exact h1.ds
end

/-- REGIONS WHOSE ORDER IS DRAWN. -/
theorem theReg_ok (hm : P.follows .mixedOrders = true) : RegOK P gl (theReg P gl) := by
  intro call hcall id ops σ σ' hr μ a w hs
  unfold theReg regWith at hr
  generalize (Region.before ops).toList = bef at hr
  generalize orderA P ops bef ops.toList.length 0 (List.range ops.toList.length) = ord at hr
  cases hok : regOk P ops bef ord with
  | false => rw [hok] at hr; cases hr
  | true =>
    rw [hok] at hr
    simp only [cond_true] at hr
    split at hr
    · rename_i r hrun
      cases hr
      unfold regOk at hok
      simp only [Bool.and_eq_true] at hok
      obtain ⟨⟨hbef, hap⟩, hcov⟩ := hok
      obtain ⟨E, h1, h2, h3⟩ := runR_chain ord _ _ hrun
      refine wp_region_any hm ?_
      have hD : (fun j => (Array.replicate ops.size false).getD j false) = fun _ => false := by
        funext j
        simp only [Array.getD_eq_getD_getElem?, Array.getElem?_replicate]
        split <;> rfl
      refine sim h3 rfl h2 (fun i hi => ?_) hbef hap hcall ops.size (Array.replicate ops.size false) a _ μ σ (by simp) ?_ ?_ ⟨hs.size, hs.tmps, hs.heap.drew, hs.ds⟩ ?_ (fun a' w' μ' k1 k2 => ⟨rfl, μ', k1, k2.drew⟩)
      · rw [List.all_eq_true] at hcov
        have := hcov i (List.mem_range.2 (by simpa using hi))
        rw [List.any_eq_true] at this
        obtain ⟨j, hj, hji⟩ := this
        have := Nat.eq_of_beq_eq_true hji
        subst this
        rw [← h1] at hj
        obtain ⟨e, he, hei⟩ := List.mem_map.1 hj
        exact ⟨e, he, hei⟩
      · rw [hD]
        exact ⟨fun t => (valD_none fun _ _ _ => rfl).symm, (hdsD_none fun _ _ _ => rfl).symm, rfl⟩
      · rw [hD]
        intro j k hj
        cases hj
      · exact Nat.le_trans (List.length_filter_le _ _) (by simp)
    · cases hr

end Go.Proofs.YtachednafdmmaaaDoor.AI
