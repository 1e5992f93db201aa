/- The abstract interpreter: regions whose order is drawn, where rows may be made at any time: the proof over all orders. -/
import Derived.Test.YtachednafdmmaaaDoorAIna
namespace Go.Proofs.YtachednafdmmaaaDoor.AI.N
open Go
set_option linter.unusedVariables false
set_option linter.unusedSimpArgs false

variable {P : Program} {gl : Nat → Option Nat} {call : CallA} {ops : Array Oper} {bef : List Nat}

section
variable {E : List Ent} {r0 r' : RSt} {μ0 : Mu} {h00 : AH} {w0 : World}

theorem simN (hch : Chain r0 E r') (h0 : r0.done = 0) (hl0 : r0.last = none) (hf : ∀ x ∈ E, Fact P gl call ops bef x) (hcov : ∀ i, i < ops.size → ∃ e ∈ E, e.i = i) (hbef : befOk ops bef = true) (hap : apartOk ops bef = true) (hcall : CallOK P gl call)
    (hnews : ∀ e ∈ E, isNew e.o = true → ∀ i, i < ops.size → (befN bef i).testBit e.i = true → ∀ l, e.p.last = some l → (befN bef i).testBit l = true)
    (htr : ∀ i, i < ops.size → Closed bef (fun k => (befN bef i).testBit k)) (hdst : ∀ e ∈ E, isNew e.o = true → ∀ x ∈ E, x.i ≠ e.i → x.o.dst ≠ e.o.dst) (hT0 : ∀ e ∈ E, isNew e.o = true → ∀ d, e.o.dst = some d → r0.σ.T.get d = none)
    (hdn : ∀ e ∈ E, isNew e.o = true → ∀ d, e.o.dst = some d → d < r0.σ.n) {Q : Exit → Act → World → Prop} (hQ : ∀ a' w' μ', SRel gl μ' r'.σ a' w' → Fr μ0 h00 w0 μ' r'.σ.h w' → Q .normal a' w') :
    ∀ (fuel : Nat) (listed : Array Bool) (a : Act) (w : World) (A : Nat → Bool) (B : Nat → Nat) (σ : St) (μ : Mu), listed.size = ops.size → Closed bef (fun j => listed.getD j false) →
    Hold P gl ops bef E r0 μ0 h00 w0 (fun j => listed.getD j false) a w B A σ μ → ((List.range ops.size).filter fun j => !listed.getD j false).length ≤ fuel → wpAny P .any ops Q fuel listed a w := by
  have done : ∀ (listed : Array Bool) (a : Act) (w : World) (A : Nat → Bool) (B : Nat → Nat) (σ : St) (μ : Mu), listed.size = ops.size → Closed bef (fun j => listed.getD j false) →
      Hold P gl ops bef E r0 μ0 h00 w0 (fun j => listed.getD j false) a w B A σ μ → Region.ready .any ops listed = [] → Q .normal a w := by
    intro listed a w A B σ μ hsz hcl H hready
    have hall : ∀ e ∈ E, listed.getD e.i false = true := by
      intro e he
      cases hd : listed.getD e.i false with
      | true => rfl
      | false =>
        exfalso
        obtain ⟨E1, e', E2, hE, h1, h2⟩ := exists_first (D := fun j => listed.getD j false) ⟨e, he, hd⟩
        subst hE
        obtain ⟨o1, o2, o3, o4, o5⟩ := order_facts hch h0 hf
        have fe := hf e' (List.mem_append.2 (.inr (List.mem_cons.2 (.inl rfl))))
        have hop : ops[e'.i]? = some e'.o := by rw [← Array.getElem?_toList]; exact fe.op
        have hlt : e'.i < listed.size := by rw [hsz]; exact (Array.getElem?_eq_some_iff.1 hop).1
        have hm : e'.i ∈ Region.ready .any ops listed := by
          rw [mem_ready]
          refine ⟨(getD_false hlt).2 h1, e'.o, hop, fun ed hed hbd => ?_⟩
          have hbit : (befN bef e'.i).testBit ed.on = true := (bef_bit hbef fe.op ed.on).2 ⟨ed, by simpa using hed, hbd, .inl rfl⟩
          obtain ⟨x, hx, hxi⟩ := List.mem_map.1 (o3 _ hbit)
          have := h2 x hx
          rw [hxi] at this
          exact this
        rw [hready] at hm
        simp at hm
    obtain ⟨A', σ', μ', H', hA'⟩ := settle (S := fun j => listed.getD j false) hch h0 hl0 hf hap (fun j h => h) hcl (fun e he hn hS l hel => by
      obtain ⟨E1, E2, hE⟩ := List.append_of_mem he
      have hch' := hch
      rw [hE] at hch'
      rcases Chain.last hch'.split.1 (fun x hx => hf x (by rw [hE]; exact List.mem_append.2 (.inl hx))) l hel with h1 | h1
      · rw [hl0] at h1; cases h1
      · obtain ⟨x, hx, hxi⟩ := List.mem_map.1 h1
        rw [← hxi]
        exact hall x (by rw [hE]; exact List.mem_append.2 (.inl hx))) E [] rfl A σ μ H (fun x hx => by cases hx)
    have hall' : ∀ e ∈ E, A' e.i = true := fun e he => hA' e he (hall e he)
    have hTr : ∀ t, r'.σ.T.get t = σ'.T.get t := fun t => by
      rw [H'.inv.T t, hch.val hf t]
      exact valD_congr fun x hx _ => (hall' x hx).symm
    have hhd : (r'.σ.h, r'.σ.ds) = (σ'.h, σ'.ds) := by
      rw [H'.inv.hd, hch.hds hf]
      exact hdsD_congr fun x hx _ => (hall' x hx).symm
    have e1 : r'.σ.h = σ'.h := (Prod.mk.inj hhd).1
    have e2 : r'.σ.ds = σ'.ds := (Prod.mk.inj hhd).2
    exact hQ a w μ' (H'.rel.like hTr e1 e2 (by rw [hch.n hf, H'.inv.n])) (by rw [e1]; exact H'.fr)
  intro fuel
  induction fuel with
  | zero =>
    intro listed a w A B σ μ hsz hcl H hle
    have hready : Region.ready .any ops listed = [] := by
      cases hr : Region.ready .any ops listed with
      | nil => rfl
      | cons i l =>
        exfalso
        have hm : i ∈ Region.ready .any ops listed := by rw [hr]; simp
        rw [mem_ready] at hm
        obtain ⟨h1, o, h2, _⟩ := hm
        have hlt : i < ops.size := (Array.getElem?_eq_some_iff.1 h2).1
        have : i ∈ (List.range ops.size).filter fun j => !listed.getD j false := List.mem_filter.2 ⟨List.mem_range.2 hlt, by
          rw [(getD_false (by rw [hsz]; exact hlt)).1 h1]; rfl⟩
        have hl : ((List.range ops.size).filter fun j => !listed.getD j false) = [] := List.eq_nil_of_length_eq_zero (by omega)
        rw [hl] at this
        simp at this
    exact ⟨hready, done listed a w A B σ μ hsz hcl H hready⟩
  | succ fuel ih =>
    intro listed a w A0 B σ0 μ1 hsz hcl H0 hle
    refine ⟨done listed a w A0 B σ0 μ1 hsz hcl H0, fun i hi => ?_⟩
    rw [mem_ready] at hi
    obtain ⟨hi1, o, hio, hedges⟩ := hi
    have hlt : i < ops.size := (Array.getElem?_eq_some_iff.1 hio).1
    obtain ⟨e, heE, hei⟩ := hcov i hlt
    subst hei
    obtain ⟨E1, E2, hE⟩ := List.append_of_mem heE
    have fe := hf e heE
    have hop : ops[e.i]? = some e.o := by rw [← Array.getElem?_toList]; exact fe.op
    rw [hop] at hio
    cases hio
    have hDe : listed.getD e.i false = false := (getD_false (by rw [hsz]; exact hlt)).1 hi1
    have hbD : ∀ k, (befN bef e.i).testBit k = true → listed.getD k false = true := fun k hk => by
      obtain ⟨ed, h1, h2, h3⟩ := (bef_bit hbef fe.op k).1 hk
      have h4 := hedges ed (by simpa using h1) h2
      rcases h3 with h3 | h3
      · rw [← h3]; exact h4
      · exact hcl _ _ h4 h3
    -- what it waits for is taken up
    obtain ⟨A, σ, μ, H, hAb⟩ := settle (S := fun k => (befN bef e.i).testBit k) hch h0 hl0 hf hap hbD (htr e.i hlt) (fun x hx hn hS l hxl => hnews x hx hn e.i hlt hS l hxl) E [] rfl A0 σ0 μ1 H0 (fun x hx => by cases hx)
    have hch' := hch
    have hf' := hf
    rw [hE] at hch' hf'
    obtain ⟨o1, o2, o3, _, _⟩ := order_facts hch' h0 hf'
    have hb : ∀ k, (befN bef e.i).testBit k = true → A k = true := fun k hk => by
      obtain ⟨x, hx, hxi⟩ := List.mem_map.1 (o3 k hk)
      rw [← hxi]
      exact hAb x (by rw [hE]; exact List.mem_append.2 (.inl hx)) (by rw [hxi]; exact hk)
    have hAe : A e.i = false := by
      cases hA : A e.i with
      | false => rfl
      | true => have := H.sub _ hA; rw [hDe] at this; cases this
    have hN : ∀ x ∈ E1 ++ e :: E2, isNew x.o = true → A x.i = true → ∀ l, x.p.last = some l → A l = true := fun x hx => H.nok x (by rw [hE]; exact hx)
    have hD' : (fun j => (listed.setIfInBounds e.i true).getD j false) = fun j => (fun j => listed.getD j false) j || j == e.i := by
      funext j
      by_cases hj : j = e.i
      · subst hj
        simp [Array.getD_eq_getD_getElem?, Array.getElem?_setIfInBounds_self_of_lt (show e.i < listed.size by rw [hsz]; exact hlt)]
      · have : (j == e.i) = false := by simpa using hj
        simp [Array.getD_eq_getD_getElem?, Array.getElem?_setIfInBounds_ne (fun h => hj h.symm : e.i ≠ j), this]
    have hDp : ∀ j, (listed.setIfInBounds e.i true).getD j false = (listed.getD j false || j == e.i) := fun j => congrFun hD' j
    have hcl' : Closed bef (fun j => (listed.setIfInBounds e.i true).getD j false) := by
      rw [hD']
      intro j k hj hk
      simp only [Bool.or_eq_true, beq_iff_eq] at hj ⊢
      rcases hj with hj | hj
      · exact .inl (hcl j k hj hk)
      · subst hj; exact .inl (hbD k hk)
    have hle' : ((List.range ops.size).filter fun j => !(listed.setIfInBounds e.i true).getD j false).length ≤ fuel := by
      have hfun : (fun j => !(listed.setIfInBounds e.i true).getD j false) = fun j => !(listed.getD j false || j == e.i) := funext fun j => by rw [hDp j]
      rw [hfun]
      have := length_filter_lt (p := fun j => !listed.getD j false) (q := fun j => !(listed.getD j false || j == e.i)) (l := List.range ops.size)
        (fun x _ hx => by simp only [Bool.not_eq_true', Bool.or_eq_false_iff] at hx ⊢; exact hx.1) (y := e.i) (List.mem_range.2 hlt) (by rw [hDe]; rfl) (by simp)
      omega
    have hsz' : (listed.setIfInBounds e.i true).size = ops.size := by rw [Array.size_setIfInBounds]; exact hsz
    have hs := H.rel
    have hlook : ∀ t, t ∈ e.o.looksAt ops → σ.T.get t = e.p.σ.T.get t := fun t ht => by
      rw [H.inv.T t, hE]
      exact val_at hch' h0 hf' hap H.clA hAe hb (.inl ht)
    have hev : ∀ x ∈ e.o.op.operands, evA gl σ.T x = evA gl e.p.σ.T x := fun x hx => by
      cases x with
      | tmp t =>
        refine hlook t ?_
        unfold Oper.looksAt
        refine List.mem_append.2 (.inl (List.mem_filterMap.2 ⟨.tmp t, by simpa using hx, rfl⟩))
      | const v => rfl
      | global g => rfl
      | func f => rfl
    have hwant : wantA ops e.o σ.T = wantA ops e.o e.p.σ.T := by
      unfold wantA
      cases hg : e.o.guard with
      | none => rfl
      | some gw =>
        obtain ⟨j, want⟩ := gw
        dsimp only
        cases hj : ops.toList[j]? with
        | none => rfl
        | some oj =>
          dsimp only
          cases hd : oj.dst with
          | none => rfl
          | some d =>
            dsimp only
            rw [hlook d (by
              unfold Oper.looksAt
              refine List.mem_append.2 (.inr ?_)
              rw [hg]
              rw [Array.getElem?_toList] at hj
              simp [hj, hd])]
    have hval : ∀ {σ2 : St} {v : Value}, (∀ t, σ2.T.get t = if e.o.dst = some t then some v else σ.T.get t) → (∀ t, e.o.dst = some t → e.q.σ.T.get t = some v) →
        ∀ t, σ2.T.get t = valD (fun j => A j || j == e.i) t E (r0.σ.T.get t) := by
      intro σ2 v h1 h2 t
      rw [hE, val_after hch' h0 hf' hap H.clA hAe t, h1 t]
      by_cases hd : e.o.dst = some t
      · rw [if_pos hd, if_pos hd, h2 t hd]
      · rw [if_neg hd, if_neg hd, H.inv.T t, hE]
    have hnoteff : effE P ops e = false → hdsD P ops (fun j => A j || j == e.i) E (r0.σ.h, r0.σ.ds) = (σ.h, σ.ds) := by
      intro hne
      rw [H.inv.hd]
      refine hdsD_congr fun x hx hxe => ?_
      have hxi : x.i ≠ e.i := by
        rw [hE] at hx
        rcases List.mem_append.1 hx with hx | hx
        · exact o1 x hx
        · rcases List.mem_cons.1 hx with rfl | hx
          · rw [hne] at hxe; cases hxe
          · exact o2 x hx
      have : (x.i == e.i) = false := by simpa using hxi
      simp [this]
    have hself : ∀ x ∈ E, x.i = e.i → x = e := fun x hx hxi => val_of hch' h0 hf' (by rw [← hE]; exact hx) hxi
    -- an operation that makes no row
    have next : isNew e.o = false → ∀ (σ2 : St) (a' : Act) (w' : World) (μ' : Mu), Inv P ops E r0 (fun j => A j || j == e.i) σ2 → SRel gl μ' σ2 a' w' → Fr μ σ.h w μ' σ2.h w' → (∃ (b : Act) (c : Value), a' = b.put e.o.dst c ∧ b.tmps = a.tmps) →
        wpAny P .any ops Q fuel (listed.setIfInBounds e.i true) a' w' := fun hnn σ2 a' w' μ' h1 h2 h3 ⟨b, c, h4, h5⟩ => by
      refine ih _ a' w' (fun j => A j || j == e.i) B σ2 μ' hsz' hcl' ⟨h1, fun j k hj hk => ?_, fun j hj => ?_, fun x hx hDx hAx => ?_, fun x hx hnx hAx l hxl => ?_, h2, H.fr.trans h3, fun x hx hDx hAx => ?_, fun x hx y hy g1 g2 g3 g4 => ?_⟩ hle'
      · simp only [Bool.or_eq_true, beq_iff_eq] at hj ⊢
        rcases hj with hj | hj
        · exact .inl (H.clA j k hj hk)
        · subst hj; exact .inl (hb k hk)
      · rw [hDp j]
        simp only [Bool.or_eq_true, beq_iff_eq] at hj ⊢
        exact hj.imp (H.sub j) id
      · simp only [Bool.or_eq_false_iff, beq_eq_false_iff_ne] at hAx
        rw [hDp x.i] at hDx
        simp only [Bool.or_eq_true, beq_iff_eq] at hDx
        exact H.pend x hx (hDx.resolve_right hAx.2) hAx.1
      · simp only [Bool.or_eq_true, beq_iff_eq] at hAx ⊢
        rcases hAx with hAx | hAx
        · exact .inl (H.nok x hx hnx hAx l hxl)
        · rw [hself x hx hAx, hnn] at hnx; cases hnx
      · simp only [Bool.or_eq_false_iff, beq_eq_false_iff_ne] at hAx
        rw [hDp x.i] at hDx
        simp only [Bool.or_eq_true, beq_iff_eq] at hDx
        have hDx' := hDx.resolve_right hAx.2
        have hxn := H.pend x hx hDx' hAx.1
        refine (H.pd x hx hDx' hAx.1).step hs.heap h3 fun d hd => ?_
        rw [h4, put_other (fun hh => hdst x hx hxn e heE (fun h => hAx.2 h.symm) (hh.trans hd.symm)), h5]
      · simp only [Bool.or_eq_false_iff, beq_eq_false_iff_ne] at g2 g4
        rw [hDp x.i] at g1
        rw [hDp y.i] at g3
        simp only [Bool.or_eq_true, beq_iff_eq] at g1 g3
        exact H.dis x hx y hy (g1.resolve_right g2.2) g2.1 (g3.resolve_right g4.2) g4.1
    unfold wpOp
    rw [hop]
    dsimp only
    have hpn : e.p.σ.n = r0.σ.n := (hch'.split.1).n (fun x hx => hf' x (List.mem_append.2 (.inl hx)))
    have nnw : wantA ops e.o e.p.σ.T = some true → clsA P e.o.op ≠ 2 → isNew e.o = false := fun _ hc => by
      cases hn : isNew e.o with
      | false => rfl
      | true => exact absurd (isNew_some (P := P) hn).2.2.1 hc
    cases fe.kind with
    | skip hw hsx hl hr =>
      have hnn : isNew e.o = false := by
        cases hn : isNew e.o with
        | false => rfl
        | true => rw [(eff_new (P := P) (ops := ops) (e := e) hn).1] at hw; cases hw
      rw [← hwant] at hw
      rw [wantA_ok hs hw, if_neg (by decide)]
      obtain ⟨σ2, hp⟩ := putA_of (σ := σ) (v := undef) hsx (by rw [H.inv.n, hpn])
      obtain ⟨k1, k2, k3⟩ := put_rel hp hs .undef
      obtain ⟨g1, g2, g3, g4⟩ := putA_get hp
      obtain ⟨q1, q2, q3, q4⟩ := putA_get hsx
      refine next hnn σ2 _ w μ ⟨hval g4 (fun t ht => by rw [q4, if_pos ht]), ?_, by rw [g1, H.inv.n]⟩ k1 (by rw [k2]; exact .refl _ _ _) ⟨a, _, rfl, rfl⟩
      rw [hnoteff (by unfold effE; rw [← hwant, hw]), g2, g3]
    | pur hw hc hsx hl hr =>
      have hnn := nnw hw (by rw [hc]; decide)
      rw [← hwant] at hw
      rw [wantA_ok hs hw, if_pos rfl]
      refine .inl ?_
      obtain ⟨v, h', d, hv, hp⟩ := stepA_open hsx
      obtain ⟨e1, e2, e3⟩ := pur_ok hc hv
      subst e1 e2
      have hv' : stepV P call (evA gl σ.T) σ.h e.o.op = some (v, σ.h, []) := by rw [stepV_congr σ.h e.o.op hev]; exact e3 σ.h
      obtain ⟨σ2, hp2⟩ := putA_of (σ := { σ with h := σ.h, ds := [] ++ σ.ds }) (v := v) hp (by
        show σ.n = e.p.σ.n
        rw [H.inv.n, hpn])
      have hst : stepA P gl call e.o σ = some σ2 := by rw [stepA_def]; rw [hv']; exact hp2
      obtain ⟨g1, g2, g3, g4⟩ := putA_get hp2
      obtain ⟨q1, q2, q3, q4⟩ := putA_get hp
      refine stepA_okF hcall hst hs fun a' w' μ' h1 h2 h3' => next hnn σ2 a' w' μ' ⟨hval g4 (fun t ht => by rw [q4, if_pos ht]), ?_, by rw [g1]; exact H.inv.n⟩ h1 h2 h3'
      rw [hnoteff (by unfold effE; rw [← hwant, hw, hc]; rfl), g2, g3]; rfl
    | rd hw hc hok hsx hl hr =>
      have hnn := nnw hw (by rw [hc]; decide)
      rw [← hwant] at hw
      rw [wantA_ok hs hw, if_pos rfl]
      refine .inl ?_
      obtain ⟨v, h', d, hv, hp⟩ := stepA_open hsx
      obtain ⟨e1, e2, e3⟩ := rd_ok hc hv
      subst e1 e2
      have hne : effE P ops e = false := by unfold effE; rw [← hwant, hw, hc]; rfl
      have hget : ∀ b, rdBlk (evA gl e.p.σ.T) e.o.op = some b → σ.h.get b = e.p.σ.h.get b := fun b hbk => by
        have := rd_at hch' hf' H.clA hN hAe (last_in hok hb) hne (b := b) (by rw [hr, hbk]; simp)
        rw [← hE, ← H.inv.hd] at this
        exact this
      have hv' : stepV P call (evA gl σ.T) σ.h e.o.op = some (v, σ.h, []) := by rw [stepV_congr σ.h e.o.op hev]; exact e3 σ.h hget
      obtain ⟨σ2, hp2⟩ := putA_of (σ := { σ with h := σ.h, ds := [] ++ σ.ds }) (v := v) hp (by
        show σ.n = e.p.σ.n
        rw [H.inv.n, hpn])
      have hst : stepA P gl call e.o σ = some σ2 := by rw [stepA_def]; rw [hv']; exact hp2
      obtain ⟨g1, g2, g3, g4⟩ := putA_get hp2
      obtain ⟨q1, q2, q3, q4⟩ := putA_get hp
      refine stepA_okF hcall hst hs fun a' w' μ' h1 h2 h3' => next hnn σ2 a' w' μ' ⟨hval g4 (fun t ht => by rw [q4, if_pos ht]), ?_, by rw [g1]; exact H.inv.n⟩ h1 h2 h3'
      rw [hnoteff hne, g2, g3]; rfl
    | eff hnn hw hc hok hlx σ1 hlk hsx hq hll hr =>
      have hee : effE P ops e = true := by unfold effE; rw [hw]; exact Nat.ble_eq_true_of_le hc
      rw [← hwant] at hw
      rw [wantA_ok hs hw, if_pos rfl]
      refine .inl ?_
      obtain ⟨d1, d2⟩ := hds_at hch' hf' H.clA hN hAe (last_in hok hb) hee
      rw [← hE, ← H.inv.hd] at d1
      rw [← hE] at d2
      have eh : σ.h = e.p.σ.h := (Prod.mk.inj d1).1
      have ed : σ.ds = e.p.σ.ds := (Prod.mk.inj d1).2
      rw [← eh] at hlk
      obtain ⟨v, h', d, hv, hp⟩ := stepA_open hsx
      dsimp only at hv hp
      have hv' : stepV P call (evA gl σ.T) hlx e.o.op = some (v, h', d) := by rw [stepV_congr hlx e.o.op hev]; exact hv
      obtain ⟨σ2, hp2⟩ := putA_of (σ := { σ with h := h', ds := d ++ σ.ds }) (v := v) hp (by
        show σ.n = e.p.σ.n
        rw [H.inv.n, hpn])
      have hst : stepA P gl call e.o { σ with h := hlx } = some σ2 := by rw [stepA_def]; dsimp only; rw [hv']; exact hp2
      obtain ⟨g1, g2, g3, g4⟩ := putA_get hp2
      obtain ⟨q1, q2, q3, q4⟩ := putA_get hp
      have hnx := (lockAll_get _ _ _ hlk).1
      have hsl : SRel gl μ { σ with h := hlx } a w := ⟨hs.size, by show TRel μ hlx.next σ.T a.tmps; rw [hnx]; exact hs.tmps, lock_rel hlk hs.heap, by show DRel μ hlx.next σ.ds a.defers; rw [hnx]; exact hs.ds⟩
      refine stepA_okF hcall hst hsl fun a' w' μ' h1 h2 h3' => ?_
      obtain ⟨u1, u2⟩ := unlock_rel hlk hs.heap h1.heap h2
      have un := (unlockAll_get σ.h ((e.p.rds.filter fun x => !(befN bef e.i).testBit x.1).map (·.2)) σ2.h).1
      refine next hnn { σ2 with h := unlockAll σ.h ((e.p.rds.filter fun x => !(befN bef e.i).testBit x.1).map (·.2)) σ2.h } a' w' μ' ⟨?_, ?_, ?_⟩ ⟨h1.size, ?_, u1, ?_⟩ u2 h3'
      · exact hval (σ2 := { σ2 with h := unlockAll σ.h ((e.p.rds.filter fun x => !(befN bef e.i).testBit x.1).map (·.2)) σ2.h }) g4 (fun t ht => by rw [hq]; show σ1.T.get t = _; rw [q4, if_pos ht])
      · rw [d2, hq]
        show (unlockAll σ.h _ σ2.h, σ2.ds) = (unlockAll e.p.σ.h _ σ1.h, σ1.ds)
        rw [g2, g3, q2, q3, eh, ed]
      · show σ2.n = r0.σ.n
        rw [g1]; exact H.inv.n
      · show TRel μ' (unlockAll σ.h _ σ2.h).next σ2.T a'.tmps
        rw [un]; exact h1.tmps
      · show DRel μ' (unlockAll σ.h _ σ2.h).next σ2.ds a'.defers
        rw [un]; exact h1.ds
    | new hn hsx hff hll hr =>
      obtain ⟨d, z, cs, hd, hrow, _, _, _⟩ := new_q fe hn
      have hw := (eff_new (P := P) (ops := ops) (e := e) hn).1
      rw [← hwant] at hw
      rw [wantA_ok hs hw, if_pos rfl]
      refine .inl ?_
      -- the row is made out of what is there
      have hrow' : nRow P (evA gl σ.T) e.o.op = some (z, cs) := by
        rw [← hrow]
        have h1 := stepV_new (P := P) (call := call) (ev := evA gl σ.T) (h := ⟨.nil, 0⟩) hn
        have h2 := stepV_new (P := P) (call := call) (ev := evA gl e.p.σ.T) (h := ⟨.nil, 0⟩) hn
        rw [stepV_congr _ e.o.op hev, h2, hrow] at h1
        dsimp only at h1
        cases hq : nRow P (evA gl σ.T) e.o.op with
        | none => rw [hq] at h1; cases h1
        | some zc =>
          obtain ⟨z2, cs2⟩ := zc
          rw [hq] at h1
          dsimp only at h1
          injection h1 with h1
          injection h1 with h3 h4
          injection h4 with h4 h5
          have h6 : (AH.add ⟨.nil, 0⟩ (.row false z cs)).get 0 = (AH.add ⟨.nil, 0⟩ (.row false z2 cs2)).get 0 := by rw [h4]
          rw [AH.get_add, AH.get_add, if_pos rfl, if_pos rfl] at h6
          injection h6 with h6
          injection h6 with h7 h8 h9
          rw [hrow, h8, h9]
      obtain ⟨C, ty, hrun, hC⟩ := nRow_run (P := P) (gl := gl) (w := w) (ρ := a.eval) hn (fun x v hx => evA_rel hs x v hx) hrow'
      have hold : ∀ k, k < w.heap.size → (w.alloc (.cells C ty)).heap[k]? = w.heap[k]? := fun k hk => by
        show (w.heap.push _)[k]? = _
        rw [Array.getElem?_push, if_neg (by omega)]
      have hnew : (w.alloc (.cells C ty)).heap[w.heap.size]? = some (.cells C ty (0, 0)) := by
        show (w.heap.push _)[w.heap.size]? = _
        rw [Array.getElem?_push, if_pos rfl]
      have hfr1 : Fr μ σ.h w μ σ.h (w.alloc (.cells C ty)) :=
        ⟨rfl, rfl, rfl, by rw [World.size_alloc]; omega, Nat.le_refl _, .refl _ _, fun B hB _ => hold B hB, fun B hB => .inl hB, fun _ _ h _ => h, fun _ _ h _ => h⟩
      have hheap : HRel gl μ σ.h (w.alloc (.cells C ty)) :=
        (hs.heap.step ⟨hs.heap.lt, fun i b hb => (hs.heap.blk i b hb).same (Ext.rf _ _) (Nat.le_refl _) (hold _ (hs.heap.blk i b hb).lt), hs.heap.sep, hs.heap.glob⟩ hfr1 (fun _ _ h => h)).1
      have hTd : σ.T.get d = none := by
        rw [H.inv.T d, valD_none fun x hx hxd => ?_, hT0 e heE hn d hd]
        by_cases hxi : x.i = e.i
        · rw [hxi]; exact hAe
        · exact absurd (hxd.trans hd.symm) (hdst e heE hn x hx hxi)
      have hasz : d < a.tmps.size := by rw [hs.size, H.inv.n]; exact hdn e heE hn d hd
      have hs' : SRel gl μ σ (a.put e.o.dst (nPhy e.o.op w.heap.size)) (w.alloc (.cells C ty)) := by
        refine ⟨?_, fun t v ht => ?_, hheap, ?_⟩
        · rw [hd]
          simp only [Act.put, Array.size_setIfInBounds]
          exact hs.size
        · obtain ⟨c, h1, h2⟩ := hs.tmps t v ht
          refine ⟨c, ?_, h2⟩
          rw [put_other, h1]
          rw [hd]
          intro he
          cases he
          rw [hTd] at ht
          cases ht
        · rw [hd]; exact hs.ds
      unfold Oper.wp
      rw [hrun]
      rw [Oper.upon_value]
      refine ih _ _ _ A (fun k => if k = e.i then w.heap.size else B k) σ μ hsz' hcl' ⟨H.inv, H.clA, fun j hj => ?_, fun x hx hDx hAx => ?_, H.nok, hs', H.fr.trans hfr1, fun x hx hDx hAx => ?_, fun x hx y hy g1 g2 g3 g4 hne => ?_⟩ hle'
      · rw [hDp j, H.sub j hj]; rfl
      · rw [hDp x.i] at hDx
        simp only [Bool.or_eq_true, beq_iff_eq] at hDx
        rcases hDx with hDx | hDx
        · exact H.pend x hx hDx hAx
        · rw [hself x hx hDx]; exact hn
      · by_cases hxi : x.i = e.i
        · have := hself x hx hxi
          subst this
          simp only [if_true]
          refine ⟨fun d' hd' => ?_, ⟨z, cs, C, ty, hrow, hnew, hC⟩, fun j b hj => Nat.ne_of_lt (hs.heap.blk j b hj).lt, H.fr.size, fun C' hC' => by obtain ⟨⟨_, _, h1⟩, _⟩ := hs.heap.fz _ C' hC'; exact absurd (Array.getElem?_eq_some_iff.1 h1).1 (Nat.lt_irrefl _)⟩
          rw [hd] at hd'
          cases hd'
          rw [hd]
          simp only [Act.put]
          rw [Array.getElem?_setIfInBounds_self_of_lt hasz]
        · rw [hDp x.i] at hDx
          simp only [Bool.or_eq_true, beq_iff_eq] at hDx
          have hDx' := hDx.resolve_right hxi
          simp only [hxi, if_false]
          have hxn := H.pend x hx hDx' hAx
          exact (H.pd x hx hDx' hAx).step hs.heap hfr1 fun d' hd' => put_other fun hh => hdst x hx hxn e heE (fun h => hxi h.symm) (hh.trans hd'.symm)
      · rw [hDp x.i] at g1
        rw [hDp y.i] at g3
        simp only [Bool.or_eq_true, beq_iff_eq] at g1 g3
        by_cases hxi : x.i = e.i
        · have hyi : ¬ y.i = e.i := fun h => hne (hxi.trans h.symm)
          simp only [hxi, if_true, hyi, if_false]
          exact Nat.ne_of_gt (H.pd y hy (g3.resolve_right hyi) g4).lt
        · by_cases hyi : y.i = e.i
          · simp only [hxi, if_false, hyi, if_true]
            exact Nat.ne_of_lt (H.pd x hx (g1.resolve_right hxi) g2).lt
          · simp only [hxi, if_false, hyi]
            exact H.dis x hx y hy (g1.resolve_right hxi) g2 (g3.resolve_right hyi) g4 hne
end

end Go.Proofs.YtachednafdmmaaaDoor.AI.N
