/- The abstract interpreter: regions whose order is drawn, with allocations that have a free place. -/
import Derived.Test.YtachednafdmmaaaDoorAIs
namespace Go.Proofs.YtachednafdmmaaaDoor.AI
open Go
set_option linter.unusedVariables false
set_option linter.unusedSimpArgs false

variable {P : Program} {gl : Nat → Option Nat} {call : CallA} {ops : Array Oper} {bef : List Nat}

theorem put_other {b : Act} {dst : Option Tmp} {c : Value} {d : Tmp} (h : dst ≠ some d) : (b.put dst c).tmps[d]? = b.tmps[d]? := by
  cases dst with
  | none => rfl
  | some x =>
    simp only [Act.put]
    rw [Array.getElem?_setIfInBounds_ne fun hx => h (by rw [hx])]

/-- What stands for an allocation. -/
structure FltOK (P : Program) (ops : Array Oper) (bef : List Nat) (f : Flt) : Prop where
  op : ∃ o, ops.toList[f.i]? = some o ∧ o.op = .alloc f.t ∧ o.guard = none ∧ o.dst = some f.d
  bef : befN bef f.i = 0
  zero : ∃ z, zeroA P f.t = some z

section
variable {E : List Ent} {r0 r' : RSt} {F : List Flt} {R2 : List Nat}

theorem simF (hch : Chain r0 E r') (h0 : r0.done = 0) (hf : ∀ x ∈ E, Fact P gl call ops bef x) (hbef : befOk ops bef = true) (hap : apartOk ops bef = true) (hcall : CallOK P gl call)
    (hcov : ∀ i, i < ops.size → (∃ e ∈ E, e.i = i) ∨ (∃ f ∈ F, f.i = i) ∨ i ∈ R2) (hF : ∀ f ∈ F, FltOK P ops bef f) (hFd : ∀ f ∈ F, ∀ e ∈ E, e.o.dst ≠ some f.d ∧ e.i ≠ f.i)
    (hFF : ∀ f ∈ F, ∀ g ∈ F, f.i ≠ g.i → f.d ≠ g.d) (hR2 : ∀ j ∈ R2, (∀ e ∈ E, (befN bef j).testBit e.i = true) ∧ (∀ f ∈ F, (befN bef j).testBit f.i = true)) (hE2 : ∀ e ∈ E, e.i ∉ R2) (hF2 : ∀ f ∈ F, f.i ∉ R2)
    (hT0 : ∀ f ∈ F, r0.σ.T.get f.d = none) (hdn : ∀ f ∈ F, f.d < r0.σ.n) {Q : Exit → Act → World → Prop} {μ0 : Mu} {h00 : AH} {w0 : World}
    (hend : ∀ (fuel : Nat) (listed : Array Bool) (a : Act) (w : World) (μ : Mu) (σ : St) (B : Nat → Nat), listed.size = ops.size → (∀ e ∈ E, listed.getD e.i false = true) → (∀ f ∈ F, listed.getD f.i false = true) → (∀ j ∈ R2, listed.getD j false = false) →
      Closed bef (fun j => listed.getD j false) → ((List.range ops.size).filter fun j => !listed.getD j false).length ≤ fuel → SRel gl μ r'.σ a w → Fr μ0 h00 w0 μ r'.σ.h w → (∀ f ∈ F, Pend1 P μ r'.σ.h a w w0.heap.size f (B f.i)) →
      (∀ f ∈ F, ∀ g ∈ F, f.i ≠ g.i → B f.i ≠ B g.i) → wpAny P .any ops Q fuel listed a w) :
    ∀ (fuel : Nat) (listed : Array Bool) (a : Act) (w : World) (μ : Mu) (σ : St) (B : Nat → Nat), listed.size = ops.size → Inv P ops E r0 (fun j => listed.getD j false) σ → Closed bef (fun j => listed.getD j false) →
    SRel gl μ σ a w → ((List.range ops.size).filter fun j => !listed.getD j false).length ≤ fuel → Fr μ0 h00 w0 μ σ.h w → (∀ j ∈ R2, listed.getD j false = false) →
    (∀ f ∈ F, listed.getD f.i false = true → Pend1 P μ σ.h a w w0.heap.size f (B f.i)) → (∀ f ∈ F, ∀ g ∈ F, listed.getD f.i false = true → listed.getD g.i false = true → f.i ≠ g.i → B f.i ≠ B g.i) → wpAny P .any ops Q fuel listed a w := by
  -- all has come up that comes first
  have fin : ∀ (fuel : Nat) (listed : Array Bool) (a : Act) (w : World) (μ : Mu) (σ : St) (B : Nat → Nat), listed.size = ops.size → Inv P ops E r0 (fun j => listed.getD j false) σ → Closed bef (fun j => listed.getD j false) →
      SRel gl μ σ a w → ((List.range ops.size).filter fun j => !listed.getD j false).length ≤ fuel → Fr μ0 h00 w0 μ σ.h w → (∀ j ∈ R2, listed.getD j false = false) →
      (∀ f ∈ F, listed.getD f.i false = true → Pend1 P μ σ.h a w w0.heap.size f (B f.i)) → (∀ f ∈ F, ∀ g ∈ F, listed.getD f.i false = true → listed.getD g.i false = true → f.i ≠ g.i → B f.i ≠ B g.i) →
      (∀ e ∈ E, listed.getD e.i false = true) → (∀ f ∈ F, listed.getD f.i false = true) → wpAny P .any ops Q fuel listed a w := by
    intro fuel listed a w μ σ B hsz hinv hcl hs hle hfr hR hp1 hp2 hall hallF
    have hTr : ∀ t, r'.σ.T.get t = σ.T.get t := fun t => by
      rw [hinv.T t, hch.val hf t]
      exact valD_congr fun x hx _ => (hall x hx).symm
    have hhd : (r'.σ.h, r'.σ.ds) = (σ.h, σ.ds) := by
      rw [hinv.hd, hch.hds hf]
      exact hdsD_congr fun x hx _ => (hall x hx).symm
    have e1 : r'.σ.h = σ.h := (Prod.mk.inj hhd).1
    have e2 : r'.σ.ds = σ.ds := (Prod.mk.inj hhd).2
    exact hend fuel listed a w μ σ B hsz hall hallF hR hcl hle (hs.like hTr e1 e2 (by rw [hch.n hf, hinv.n])) (by rw [e1]; exact hfr) (fun f hf => by rw [e1]; exact hp1 f hf (hallF f hf)) (fun f hf g hg h => hp2 f hf g hg (hallF f hf) (hallF g hg) h)
  -- something may come up
  have some_ready : ∀ (listed : Array Bool), listed.size = ops.size → ¬ ((∀ e ∈ E, listed.getD e.i false = true) ∧ (∀ f ∈ F, listed.getD f.i false = true)) → Region.ready .any ops listed ≠ [] := by
    intro listed hsz hnot hready
    apply hnot
    constructor
    · intro e he
      cases hd : listed.getD e.i false with
      | true => rfl
      | false =>
        exfalso
        obtain ⟨E1, e', E2, hE, h1, h2⟩ := exists_first (D := fun j => listed.getD j false) ⟨e, he, hd⟩
        subst hE
        obtain ⟨o1, o2, o3, o4, o5⟩ := order_facts hch h0 hf
        have fe := hf e' (List.mem_append.2 (.inr (List.mem_cons.2 (.inl rfl))))
        have hop : ops[e'.i]? = some e'.o := by rw [← Array.getElem?_toList]; exact fe.op
        have hlt : e'.i < listed.size := by rw [hsz]; exact (Array.getElem?_eq_some_iff.1 hop).1
        have hm : e'.i ∈ Region.ready .any ops listed := by
          rw [mem_ready]
          refine ⟨(getD_false hlt).2 h1, e'.o, hop, fun ed hed hbd => ?_⟩
          have hbit : (befN bef e'.i).testBit ed.on = true := (bef_bit hbef fe.op ed.on).2 ⟨ed, by simpa using hed, hbd, .inl rfl⟩
          obtain ⟨x, hx, hxi⟩ := List.mem_map.1 (o3 _ hbit)
          have := h2 x hx
          rw [hxi] at this
          exact this
        rw [hready] at hm
        simp at hm
    · intro f hfF
      cases hd : listed.getD f.i false with
      | true => rfl
      | false =>
        exfalso
        obtain ⟨o, ho, _, _, _⟩ := (hF f hfF).op
        have hop : ops[f.i]? = some o := by rw [← Array.getElem?_toList]; exact ho
        have hlt : f.i < listed.size := by rw [hsz]; exact (Array.getElem?_eq_some_iff.1 hop).1
        have hm : f.i ∈ Region.ready .any ops listed := by
          rw [mem_ready]
          refine ⟨(getD_false hlt).2 hd, o, hop, fun ed hed hbd => ?_⟩
          have hbit : (befN bef f.i).testBit ed.on = true := (bef_bit hbef ho ed.on).2 ⟨ed, by simpa using hed, hbd, .inl rfl⟩
          rw [(hF f hfF).bef, Nat.zero_testBit] at hbit
          cases hbit
        rw [hready] at hm
        simp at hm
  intro fuel
  induction fuel with
  | zero =>
    intro listed a w μ σ B hsz hinv hcl hs hle hfr hR hp1 hp2
    by_cases hnot : (∀ e ∈ E, listed.getD e.i false = true) ∧ (∀ f ∈ F, listed.getD f.i false = true)
    · exact fin 0 listed a w μ σ B hsz hinv hcl hs hle hfr hR hp1 hp2 hnot.1 hnot.2
    · exfalso
      have hne := some_ready listed hsz hnot
      cases hr : Region.ready .any ops listed with
      | nil => exact hne hr
      | cons i l =>
        have hm : i ∈ Region.ready .any ops listed := by rw [hr]; simp
        rw [mem_ready] at hm
        obtain ⟨h1, o, h2, _⟩ := hm
        have hlt : i < ops.size := (Array.getElem?_eq_some_iff.1 h2).1
        have : i ∈ (List.range ops.size).filter fun j => !listed.getD j false := List.mem_filter.2 ⟨List.mem_range.2 hlt, by
          rw [(getD_false (by rw [hsz]; exact hlt)).1 h1]; rfl⟩
        have hl : ((List.range ops.size).filter fun j => !listed.getD j false) = [] := List.eq_nil_of_length_eq_zero (by omega)
        rw [hl] at this
        simp at this
  | succ fuel ih =>
    intro listed a w μ σ B hsz hinv hcl hs hle hfr hR hp1 hp2
    by_cases hnot : (∀ e ∈ E, listed.getD e.i false = true) ∧ (∀ f ∈ F, listed.getD f.i false = true)
    · exact fin _ listed a w μ σ B hsz hinv hcl hs hle hfr hR hp1 hp2 hnot.1 hnot.2
    refine ⟨fun hready => absurd hready (some_ready listed hsz hnot), fun i hi => ?_⟩
    rw [mem_ready] at hi
    obtain ⟨hi1, o, hio, hedges⟩ := hi
    have hlt : i < ops.size := (Array.getElem?_eq_some_iff.1 hio).1
    rcases hcov i hlt with ⟨e, heE, hei⟩ | ⟨f, hfF, hfi⟩ | hj
    · subst hei
      obtain ⟨E1, E2, hE⟩ := List.append_of_mem heE
      have fe := hf e heE
      have hop : ops[e.i]? = some e.o := by rw [← Array.getElem?_toList]; exact fe.op
      rw [hop] at hio
      cases hio
      have hDe : listed.getD e.i false = false := (getD_false (by rw [hsz]; exact hlt)).1 hi1
      have hb : ∀ k, (befN bef e.i).testBit k = true → listed.getD k false = true := fun k hk => by
        obtain ⟨ed, h1, h2, h3⟩ := (bef_bit hbef fe.op k).1 hk
        have h4 := hedges ed (by simpa using h1) h2
        rcases h3 with h3 | h3
        · rw [← h3]; exact h4
        · exact hcl _ _ h4 h3
      have hD' : (fun j => (listed.setIfInBounds e.i true).getD j false) = fun j => (fun j => listed.getD j false) j || j == e.i := by
        funext j
        by_cases hj : j = e.i
        · subst hj
          simp [Array.getD_eq_getD_getElem?, Array.getElem?_setIfInBounds_self_of_lt (show e.i < listed.size by rw [hsz]; exact hlt)]
        · have : (j == e.i) = false := by simpa using hj
          simp [Array.getD_eq_getD_getElem?, Array.getElem?_setIfInBounds_ne (fun h => hj h.symm : e.i ≠ j), this]
      have hDp : ∀ j, (listed.setIfInBounds e.i true).getD j false = (listed.getD j false || j == e.i) := fun j => congrFun hD' j
      have hcl' : Closed bef (fun j => (listed.setIfInBounds e.i true).getD j false) := by
        rw [hD']
        intro j k hj hk
        simp only [Bool.or_eq_true, beq_iff_eq] at hj ⊢
        rcases hj with hj | hj
        · exact .inl (hcl j k hj hk)
        · subst hj; exact .inl (hb k hk)
      have hle' : ((List.range ops.size).filter fun j => !(listed.setIfInBounds e.i true).getD j false).length ≤ fuel := by
        have hfun : (fun j => !(listed.setIfInBounds e.i true).getD j false) = fun j => !(listed.getD j false || j == e.i) := funext fun j => by rw [hDp j]
        rw [hfun]
        have := length_filter_lt (p := fun j => !listed.getD j false) (q := fun j => !(listed.getD j false || j == e.i)) (l := List.range ops.size)
          (fun x _ hx => by simp only [Bool.not_eq_true', Bool.or_eq_false_iff] at hx ⊢; exact hx.1) (y := e.i) (List.mem_range.2 hlt) (by rw [hDe]; rfl) (by simp)
        omega
      have hsz' : (listed.setIfInBounds e.i true).size = ops.size := by rw [Array.size_setIfInBounds]; exact hsz
      -- what it looks at
      have hch' := hch
      have hf' := hf
      rw [hE] at hch' hf'
      have hlook : ∀ t, t ∈ e.o.looksAt ops → σ.T.get t = e.p.σ.T.get t := fun t ht => by
        rw [hinv.T t, hE]
        exact val_at hch' h0 hf' hap hcl hDe hb (.inl ht)
      have hev : ∀ x ∈ e.o.op.operands, evA gl σ.T x = evA gl e.p.σ.T x := fun x hx => by
        cases x with
        | tmp t =>
          refine hlook t ?_
          unfold Oper.looksAt
          refine List.mem_append.2 (.inl (List.mem_filterMap.2 ⟨.tmp t, by simpa using hx, rfl⟩))
        | const v => rfl
        | global g => rfl
        | func f => rfl
      have hwant : wantA ops e.o σ.T = wantA ops e.o e.p.σ.T := by
        unfold wantA
        cases hg : e.o.guard with
        | none => rfl
        | some gw =>
          obtain ⟨j, want⟩ := gw
          dsimp only
          cases hj : ops.toList[j]? with
          | none => rfl
          | some oj =>
            dsimp only
            cases hd : oj.dst with
            | none => rfl
            | some d =>
              dsimp only
              rw [hlook d (by
                unfold Oper.looksAt
                refine List.mem_append.2 (.inr ?_)
                rw [hg]
                rw [Array.getElem?_toList] at hj
                simp [hj, hd])]
      have hval : ∀ {σ2 : St} {v : Value}, (∀ t, σ2.T.get t = if e.o.dst = some t then some v else σ.T.get t) → (∀ t, e.o.dst = some t → e.q.σ.T.get t = some v) →
          ∀ t, σ2.T.get t = valD (fun j => (listed.setIfInBounds e.i true).getD j false) t E (r0.σ.T.get t) := by
        intro σ2 v h1 h2 t
        rw [hD', hE, val_after hch' h0 hf' hap hcl hDe t, h1 t]
        by_cases hd : e.o.dst = some t
        · rw [if_pos hd, if_pos hd, h2 t hd]
        · rw [if_neg hd, if_neg hd, hinv.T t, hE]
      have hnoteff : effE P ops e = false → hdsD P ops (fun j => (listed.setIfInBounds e.i true).getD j false) E (r0.σ.h, r0.σ.ds) = (σ.h, σ.ds) := by
        intro hne
        rw [hinv.hd, hD']
        obtain ⟨o1, o2, _⟩ := order_facts hch' h0 hf'
        refine hdsD_congr fun x hx hxe => ?_
        have hxi : x.i ≠ e.i := by
          rw [hE] at hx
          rcases List.mem_append.1 hx with hx | hx
          · exact o1 x hx
          · rcases List.mem_cons.1 hx with rfl | hx
            · rw [hne] at hxe; cases hxe
            · exact o2 x hx
        have : (x.i == e.i) = false := by simpa using hxi
        simp [this]
      have hpt : ∀ f ∈ F, e.o.dst ≠ some f.d := fun f hf => (hFd f hf e heE).1
      have next : ∀ (σ2 : St) (a' : Act) (w' : World) (μ' : Mu), Inv P ops E r0 (fun j => (listed.setIfInBounds e.i true).getD j false) σ2 → SRel gl μ' σ2 a' w' → Fr μ σ.h w μ' σ2.h w' → (∃ (b : Act) (c : Value), a' = b.put e.o.dst c ∧ b.tmps = a.tmps) →
          wpAny P .any ops Q fuel (listed.setIfInBounds e.i true) a' w' := fun σ2 a' w' μ' h1 h2 h3 ⟨b, c, h4, h5⟩ => by
        refine ih _ a' w' μ' σ2 B hsz' h1 hcl' h2 hle' (hfr.trans h3) (fun j hj => ?_) (fun f hf hlf => ?_) (fun f hf g hg h6 h7 h8 => ?_)
        · have := hR j hj
          rw [hDp j, this]
          have hne : j ≠ e.i := fun h => hE2 e heE (h ▸ hj)
          simpa using hne
        · have hne : f.i ≠ e.i := fun h => (hFd f hf e heE).2 h.symm
          rw [hDp f.i] at hlf
          have hl' : listed.getD f.i false = true := by
            have : (f.i == e.i) = false := by simpa using hne
            rw [this, Bool.or_false] at hlf
            exact hlf
          refine (hp1 f hf hl').step hs.heap h3 ?_
          rw [h4, put_other (hpt f hf), h5]
        · have hn1 : (f.i == e.i) = false := by simpa using fun h => (hFd f hf e heE).2 h.symm
          have hn2 : (g.i == e.i) = false := by simpa using fun h => (hFd g hg e heE).2 h.symm
          rw [hDp f.i, hn1, Bool.or_false] at h6
          rw [hDp g.i, hn2, Bool.or_false] at h7
          exact hp2 f hf g hg h6 h7 h8
      unfold wpOp
      rw [hop]
      dsimp only
      cases fe.kind with
      | skip hw hsx hl hr =>
        rw [← hwant] at hw
        rw [wantA_ok hs hw, if_neg (by decide)]
        obtain ⟨σ2, hp⟩ := putA_of (σ := σ) (v := undef) hsx (by
          rw [hinv.n]; exact ((hch'.split.1).n (fun x hx => hf' x (List.mem_append.2 (.inl hx)))).symm)
        obtain ⟨k1, k2, k3⟩ := put_rel hp hs .undef
        obtain ⟨g1, g2, g3, g4⟩ := putA_get hp
        obtain ⟨q1, q2, q3, q4⟩ := putA_get hsx
        refine next σ2 _ w μ ⟨hval g4 (fun t ht => by rw [q4, if_pos ht]), ?_, by rw [g1, hinv.n]⟩ k1 (by rw [k2]; exact .refl _ _ _) ⟨a, _, rfl, rfl⟩
        rw [hnoteff (by unfold effE; rw [← hwant, hw]), g2, g3]
      | pur hw hc hsx hl hr =>
        rw [← hwant] at hw
        rw [wantA_ok hs hw, if_pos rfl]
        refine .inl ?_
        obtain ⟨v, h', d, hv, hp⟩ := stepA_open hsx
        obtain ⟨e1, e2, e3⟩ := pur_ok hc hv
        subst e1 e2
        have hv' : stepV P call (evA gl σ.T) σ.h e.o.op = some (v, σ.h, []) := by rw [stepV_congr σ.h e.o.op hev]; exact e3 σ.h
        obtain ⟨σ2, hp2⟩ := putA_of (σ := { σ with h := σ.h, ds := [] ++ σ.ds }) (v := v) hp (by
          show σ.n = e.p.σ.n
          rw [hinv.n]; exact ((hch'.split.1).n (fun x hx => hf' x (List.mem_append.2 (.inl hx)))).symm)
        have hst : stepA P gl call e.o σ = some σ2 := by rw [stepA_def]; rw [hv']; exact hp2
        obtain ⟨g1, g2, g3, g4⟩ := putA_get hp2
        obtain ⟨q1, q2, q3, q4⟩ := putA_get hp
        refine stepA_okF hcall hst hs fun a' w' μ' h1 h2 h3' => next σ2 a' w' μ' ⟨hval g4 (fun t ht => by rw [q4, if_pos ht]), ?_, by rw [g1]; exact hinv.n⟩ h1 h2 h3'
        rw [hnoteff (by unfold effE; rw [← hwant, hw, hc]; rfl), g2, g3]; rfl
      | rd hw hc hok hsx hl hr =>
        rw [← hwant] at hw
        rw [wantA_ok hs hw, if_pos rfl]
        refine .inl ?_
        obtain ⟨v, h', d, hv, hp⟩ := stepA_open hsx
        obtain ⟨e1, e2, e3⟩ := rd_ok hc hv
        subst e1 e2
        have hne : effE P ops e = false := by unfold effE; rw [← hwant, hw, hc]; rfl
        have hget : ∀ b, rdBlk (evA gl e.p.σ.T) e.o.op = some b → σ.h.get b = e.p.σ.h.get b := fun b hbk => by
          have := rd_at hch' hf' hcl hDe (last_in hok hb) hne (b := b) (by rw [hr, hbk]; simp)
          rw [← hE, ← hinv.hd] at this
          exact this
        have hv' : stepV P call (evA gl σ.T) σ.h e.o.op = some (v, σ.h, []) := by rw [stepV_congr σ.h e.o.op hev]; exact e3 σ.h hget
        obtain ⟨σ2, hp2⟩ := putA_of (σ := { σ with h := σ.h, ds := [] ++ σ.ds }) (v := v) hp (by
          show σ.n = e.p.σ.n
          rw [hinv.n]; exact ((hch'.split.1).n (fun x hx => hf' x (List.mem_append.2 (.inl hx)))).symm)
        have hst : stepA P gl call e.o σ = some σ2 := by rw [stepA_def]; rw [hv']; exact hp2
        obtain ⟨g1, g2, g3, g4⟩ := putA_get hp2
        obtain ⟨q1, q2, q3, q4⟩ := putA_get hp
        refine stepA_okF hcall hst hs fun a' w' μ' h1 h2 h3' => next σ2 a' w' μ' ⟨hval g4 (fun t ht => by rw [q4, if_pos ht]), ?_, by rw [g1]; exact hinv.n⟩ h1 h2 h3'
        rw [hnoteff hne, g2, g3]; rfl
      | eff hw hc hok hlx σ1 hlk hsx hq hll hr =>
        have hee : effE P ops e = true := by unfold effE; rw [hw]; exact Nat.ble_eq_true_of_le hc
        rw [← hwant] at hw
        rw [wantA_ok hs hw, if_pos rfl]
        refine .inl ?_
        obtain ⟨d1, d2⟩ := hds_at hch' hf' hcl hDe (last_in hok hb) hee
        rw [← hE, ← hinv.hd] at d1
        rw [← hE, ← hD'] at d2
        have eh : σ.h = e.p.σ.h := (Prod.mk.inj d1).1
        have ed : σ.ds = e.p.σ.ds := (Prod.mk.inj d1).2
        rw [← eh] at hlk
        obtain ⟨v, h', d, hv, hp⟩ := stepA_open hsx
        dsimp only at hv hp
        have hv' : stepV P call (evA gl σ.T) hlx e.o.op = some (v, h', d) := by rw [stepV_congr hlx e.o.op hev]; exact hv
        obtain ⟨σ2, hp2⟩ := putA_of (σ := { σ with h := h', ds := d ++ σ.ds }) (v := v) hp (by
          show σ.n = e.p.σ.n
          rw [hinv.n]; exact ((hch'.split.1).n (fun x hx => hf' x (List.mem_append.2 (.inl hx)))).symm)
        have hst : stepA P gl call e.o { σ with h := hlx } = some σ2 := by rw [stepA_def]; dsimp only; rw [hv']; exact hp2
        obtain ⟨g1, g2, g3, g4⟩ := putA_get hp2
        obtain ⟨q1, q2, q3, q4⟩ := putA_get hp
        have hnx := (lockAll_get _ _ _ hlk).1
        have hsl : SRel gl μ { σ with h := hlx } a w := ⟨hs.size, by show TRel μ hlx.next σ.T a.tmps; rw [hnx]; exact hs.tmps, lock_rel hlk hs.heap, by show DRel μ hlx.next σ.ds a.defers; rw [hnx]; exact hs.ds⟩
        refine stepA_okF hcall hst hsl fun a' w' μ' h1 h2 h3' => ?_
        obtain ⟨u1, u2⟩ := unlock_rel hlk hs.heap h1.heap h2
        have un := (unlockAll_get σ.h ((e.p.rds.filter fun x => !(befN bef e.i).testBit x.1).map (·.2)) σ2.h).1
        refine next { σ2 with h := unlockAll σ.h ((e.p.rds.filter fun x => !(befN bef e.i).testBit x.1).map (·.2)) σ2.h } a' w' μ' ⟨?_, ?_, ?_⟩ ⟨h1.size, ?_, u1, ?_⟩ u2 h3'
        · exact hval (σ2 := { σ2 with h := unlockAll σ.h ((e.p.rds.filter fun x => !(befN bef e.i).testBit x.1).map (·.2)) σ2.h }) g4 (fun t ht => by rw [hq]; show σ1.T.get t = _; rw [q4, if_pos ht])
        · rw [d2, hq]
          show (unlockAll σ.h _ σ2.h, σ2.ds) = (unlockAll e.p.σ.h _ σ1.h, σ1.ds)
          rw [g2, g3, q2, q3, eh, ed]
        · show σ2.n = r0.σ.n
          rw [g1]; exact hinv.n
        · show TRel μ' (unlockAll σ.h _ σ2.h).next σ2.T a'.tmps
          rw [un]; exact h1.tmps
        · show DRel μ' (unlockAll σ.h _ σ2.h).next σ2.ds a'.defers
          rw [un]; exact h1.ds
    · subst hfi
      have fo := hF f hfF
      obtain ⟨o', ho', hop', hg', hd'⟩ := fo.op
      have hop : ops[f.i]? = some o' := by rw [← Array.getElem?_toList]; exact ho'
      rw [hop] at hio
      cases hio
      obtain ⟨z, hz⟩ := fo.zero
      have hDf : listed.getD f.i false = false := (getD_false (by rw [hsz]; exact hlt)).1 hi1
      have hD' : (fun j => (listed.setIfInBounds f.i true).getD j false) = fun j => (fun j => listed.getD j false) j || j == f.i := by
        funext j
        by_cases hj : j = f.i
        · subst hj
          simp [Array.getD_eq_getD_getElem?, Array.getElem?_setIfInBounds_self_of_lt (show f.i < listed.size by rw [hsz]; exact hlt)]
        · have : (j == f.i) = false := by simpa using hj
          simp [Array.getD_eq_getD_getElem?, Array.getElem?_setIfInBounds_ne (fun h => hj h.symm : f.i ≠ j), this]
      have hDp : ∀ j, (listed.setIfInBounds f.i true).getD j false = (listed.getD j false || j == f.i) := fun j => congrFun hD' j
      have hcl' : Closed bef (fun j => (listed.setIfInBounds f.i true).getD j false) := by
        rw [hD']
        intro j k hj hk
        simp only [Bool.or_eq_true, beq_iff_eq] at hj ⊢
        rcases hj with hj | hj
        · exact .inl (hcl j k hj hk)
        · subst hj
          rw [fo.bef, Nat.zero_testBit] at hk
          cases hk
      have hle' : ((List.range ops.size).filter fun j => !(listed.setIfInBounds f.i true).getD j false).length ≤ fuel := by
        have hfun : (fun j => !(listed.setIfInBounds f.i true).getD j false) = fun j => !(listed.getD j false || j == f.i) := funext fun j => by rw [hDp j]
        rw [hfun]
        have := length_filter_lt (p := fun j => !listed.getD j false) (q := fun j => !(listed.getD j false || j == f.i)) (l := List.range ops.size)
          (fun x _ hx => by simp only [Bool.not_eq_true', Bool.or_eq_false_iff] at hx ⊢; exact hx.1) (y := f.i) (List.mem_range.2 hlt) (by rw [hDf]; rfl) (by simp)
        omega
      have hsz' : (listed.setIfInBounds f.i true).size = ops.size := by rw [Array.size_setIfInBounds]; exact hsz
      have hwant : Region.wanted o (yielded ops a.tmps) = true := by unfold Region.wanted; rw [hg']
      have hrun : (execOp a.eval o).run P w = .ok (.value (.pointer (some ⟨w.heap.size, 0, none⟩))) (w.alloc (.cells z.cells f.t)) := by
        obtain ⟨h1, h2⟩ := zeroA_run (P := P) (μ := μ) (n := σ.h.next) (w := w) hz
        have e : (Instr.alloc f.t true (.tuple #[])).run P w = .ok (.pointer (some ⟨w.heap.size, 0, none⟩)) (w.alloc (.cells z.cells f.t)) := by
          unfold Instr.alloc
          simp only [Sem.run_bind, h1, Result.andThen_ok, newVar, newRow, run_newObj]; rfl
        unfold execOp
        rw [hop']
        show ((do pure (Next.value (← Instr.alloc f.t true (.tuple #[]))) : Sem Next)).run P w = _
        simp only [Sem.run_bind, e, Result.andThen_ok, Sem.run_pure]
      have hold : ∀ k, k < w.heap.size → (w.alloc (.cells z.cells f.t)).heap[k]? = w.heap[k]? := fun k hk => by
        show (w.heap.push _)[k]? = _
        rw [Array.getElem?_push, if_neg (by omega)]
      have hnew : (w.alloc (.cells z.cells f.t)).heap[w.heap.size]? = some (.cells z.cells f.t (0, 0)) := by
        show (w.heap.push _)[w.heap.size]? = _
        rw [Array.getElem?_push, if_pos rfl]
      have hfr1 : Fr μ σ.h w μ σ.h (w.alloc (.cells z.cells f.t)) :=
        ⟨rfl, rfl, rfl, by rw [World.size_alloc]; omega, Nat.le_refl _, .refl _ _, fun B hB _ => hold B hB, fun B hB => .inl hB, fun _ _ h _ => h, fun _ _ h _ => h⟩
      have hheap : HRel gl μ σ.h (w.alloc (.cells z.cells f.t)) :=
        (hs.heap.step ⟨hs.heap.lt, fun i b hb => (hs.heap.blk i b hb).same (Ext.rf _ _) (Nat.le_refl _) (hold _ (hs.heap.blk i b hb).lt), hs.heap.sep, hs.heap.glob⟩ hfr1 (fun _ _ h => h)).1
      have hTd : ∀ g ∈ F, σ.T.get g.d = none := fun g hg => by
        rw [hinv.T g.d, valD_none fun x hx hxd => absurd hxd (hFd g hg x hx).1, hT0 g hg]
      have hasz : f.d < a.tmps.size := by rw [hs.size, hinv.n]; exact hdn f hfF
      have hs' : SRel gl μ σ (a.put o.dst (.pointer (some ⟨w.heap.size, 0, none⟩))) (w.alloc (.cells z.cells f.t)) := by
        refine ⟨?_, fun t v ht => ?_, hheap, ?_⟩
        · rw [hd']
          simp only [Act.put, Array.size_setIfInBounds]
          exact hs.size
        · obtain ⟨c, h1, h2⟩ := hs.tmps t v ht
          refine ⟨c, ?_, h2⟩
          rw [put_other, h1]
          rw [hd']
          intro he
          cases he
          rw [hTd f hfF] at ht
          cases ht
        · rw [hd']; exact hs.ds
      have hI' : Inv P ops E r0 (fun j => (listed.setIfInBounds f.i true).getD j false) σ := by
        rw [hD']
        refine ⟨fun t => ?_, ?_, hinv.n⟩
        · rw [hinv.T t]
          refine valD_congr fun x hx _ => ?_
          have : (x.i == f.i) = false := by simpa using (hFd f hfF x hx).2
          simp [this]
        · rw [hinv.hd]
          refine hdsD_congr fun x hx _ => ?_
          have : (x.i == f.i) = false := by simpa using (hFd f hfF x hx).2
          simp [this]
      unfold wpOp
      rw [hop]
      dsimp only
      rw [hwant, if_pos rfl]
      refine .inl ?_
      unfold Oper.wp
      rw [hrun]
      rw [Oper.upon_value]
      refine ih _ _ _ μ σ (fun k => if k = f.i then w.heap.size else B k) hsz' hI' hcl' hs' hle' (hfr.trans hfr1) (fun j hj => ?_) (fun g hg hlg => ?_) (fun g hg k hk h6 h7 h8 => ?_)
      · have := hR j hj
        rw [hDp j, this]
        have hne : j ≠ f.i := fun h => hF2 f hfF (h ▸ hj)
        simpa using hne
      · by_cases hgf : g.i = f.i
        · have hgd : g.d = f.d ∧ g.t = f.t := by
            obtain ⟨og, e1, e2, e3, e4⟩ := (hF g hg).op
            rw [hgf, ho'] at e1
            cases e1
            rw [hd'] at e4
            rw [hop'] at e2
            injection e2 with e2
            exact ⟨(Option.some.inj e4).symm, e2.symm⟩
          simp only [hgf, if_true]
          refine ⟨?_, ⟨z, by rw [hgd.2]; exact hz, by rw [hgd.2]; exact hnew⟩, fun j b hj => Nat.ne_of_lt (hs.heap.blk j b hj).lt, Nat.le_trans hfr.size (Nat.le_refl _), fun C hC => by obtain ⟨⟨_, _, h1⟩, _⟩ := hs.heap.fz _ C hC; exact absurd (Array.getElem?_eq_some_iff.1 h1).1 (Nat.lt_irrefl _)⟩
          rw [hgd.1, hd']
          simp only [Act.put]
          rw [Array.getElem?_setIfInBounds_self_of_lt hasz]
        · simp only [hgf, if_false]
          rw [hDp g.i] at hlg
          have : (g.i == f.i) = false := by simpa using hgf
          rw [this, Bool.or_false] at hlg
          refine (hp1 g hg hlg).step hs.heap hfr1 (put_other ?_)
          rw [hd']
          intro he
          exact hFF g hg f hfF hgf (Option.some.inj he).symm
      · rw [hDp g.i] at h6
        rw [hDp k.i] at h7
        by_cases hgf : g.i = f.i
        · have hkf : ¬ k.i = f.i := fun h => h8 (hgf.trans h.symm)
          simp only [hgf, if_true, hkf, if_false]
          have : (k.i == f.i) = false := by simpa using hkf
          rw [this, Bool.or_false] at h7
          exact Nat.ne_of_gt (hp1 k hk h7).lt
        · have : (g.i == f.i) = false := by simpa using hgf
          rw [this, Bool.or_false] at h6
          by_cases hkf : k.i = f.i
          · simp only [hgf, if_false, hkf, if_true]
            exact Nat.ne_of_lt (hp1 g hg h6).lt
          · have : (k.i == f.i) = false := by simpa using hkf
            rw [this, Bool.or_false] at h7
            simp only [hgf, if_false, hkf]
            exact hp2 g hg k hk h6 h7 h8
    · exfalso
      apply hnot
      have ho : ops.toList[i]? = some o := by rw [Array.getElem?_toList]; exact hio
      have hb : ∀ k, (befN bef i).testBit k = true → listed.getD k false = true := fun k hk => by
        obtain ⟨ed, h1, h2, h3⟩ := (bef_bit hbef ho k).1 hk
        have h4 := hedges ed (by simpa using h1) h2
        rcases h3 with h3 | h3
        · rw [← h3]; exact h4
        · exact hcl _ _ h4 h3
      exact ⟨fun e he => hb _ ((hR2 i hj).1 e he), fun f hf => hb _ ((hR2 i hj).2 f hf)⟩
end

end Go.Proofs.YtachednafdmmaaaDoor.AI
