/- The abstract interpreter: regions whose order is drawn, where rows may be made at any time: whatever comes up, the same is come to. -/
import Derived.Test.YtachednafdmmaaaGreatDoorAIna
namespace Go.Proofs.YtachednafdmmaaaGreatDoor.AI.N
open Go
set_option linter.unusedVariables false
set_option linter.unusedSimpArgs false

variable {P : Program} {gl : Nat → Option Nat} {call : CallA} {ops : Array Oper} {bef : List Nat}

/-- What is known of a row that has been made, and has not been taken up yet. -/
structure Pend (P : Program) (gl : Nat → Option Nat) (μ : Mu) (h : AH) (a : Act) (w : World) (s0 : Nat) (e : Ent) (B : Nat) : Prop where
  tmp : ∀ d, e.o.dst = some d → a.tmps[d]? = some (nPhy e.o.op B)
  cell : ∃ z cs C ty, nRow P (evA gl e.p.σ.T) e.o.op = some (z, cs) ∧ w.heap[B]? = some (.cells C ty (0, 0)) ∧ LRel μ h.next cs C.toList
  far : ∀ (j : Nat) (b : Blk), h.get j = some b → (μ j).b ≠ B
  new : s0 ≤ B
  nfr : ∀ C, μ.fr B ≠ some C

theorem Pend.lt {μ : Mu} {h : AH} {a : Act} {w : World} {s0 : Nat} {e : Ent} {B : Nat} (p : Pend P gl μ h a w s0 e B) : B < w.heap.size := by
  obtain ⟨z, cs, C, ty, _, h1, _⟩ := p.cell
  rcases Nat.lt_or_ge B w.heap.size with h2 | h2
  · exact h2
  · rw [Array.getElem?_eq_none h2] at h1; cases h1

theorem Pend.step {μ μ' : Mu} {h h' : AH} {a a' : Act} {w w' : World} {s0 : Nat} {e : Ent} {B : Nat} (p : Pend P gl μ h a w s0 e B) (hh : HRel gl μ h w) (fr : Fr μ h w μ' h' w') (ht : ∀ d, e.o.dst = some d → a'.tmps[d]? = a.tmps[d]?) : Pend P gl μ' h' a' w' s0 e B := by
  have hn : ¬ Wr μ h B := fun ⟨i, b, h1, _, h3⟩ => p.far i b h1 h3
  refine ⟨fun d hd => by rw [ht d hd]; exact p.tmp d hd, ?_, fun j b hj he => ?_, p.new, fun C hC => (fr.ext.new B C hC).elim (p.nfr C) fun h => h.elim hn fun h => by have := p.lt; omega⟩
  · obtain ⟨z, cs, C, ty, h1, h2, h3⟩ := p.cell
    exact ⟨z, cs, C, ty, h1, by rw [fr.keep B p.lt hn]; exact h2, h3.mono fr.ext fr.next⟩
  · cases hr : b.ro with
    | true =>
      have h1 := fr.ron j b hj hr
      rw [fr.ext.loc j (hh.lt j b h1)] at he
      exact p.far j b h1 he
    | false =>
      rcases fr.own B ⟨j, b, hj, hr, he⟩ with h1 | h1
      · exact hn h1
      · have := p.lt; omega

theorem nPhy_rel {μ : Mu} {n : Nat} {o : Oper} (hn : isNew o = true) {id B : Nat} (hid : id < n) (hB : μ id = ⟨B, 0, 0⟩) : VRel μ n (nVal o.op id) (nPhy o.op B) := by
  obtain ⟨_, _, _, ⟨t, ho⟩ | ⟨t, len, ps, ho⟩⟩ := isNew_some (P := default) hn
  · rw [ho]
    have := VRel.ptr (μ := μ) (n := n) id 0 hid
    rw [hB] at this
    exact this
  · rw [ho]
    have := VRel.slc (μ := μ) (n := n) id 0 len 0 hid
    rw [hB] at this
    exact this

/-- What was last done to the heap is of the chain. -/
theorem Chain.last : ∀ {E : List Ent} {r r' : RSt}, Chain r E r' → (∀ x ∈ E, Fact P gl call ops bef x) → ∀ l, r'.last = some l → r.last = some l ∨ l ∈ E.map (·.i) := by
  intro E
  induction E with
  | nil => intro r r' h _ l hl; have : r' = r := h; subst this; exact .inl hl
  | cons e E ih =>
    intro r r' h hf l hl
    obtain ⟨h1, h2⟩ := h
    subst h1
    rcases ih h2 (fun x hx => hf x (List.mem_cons.2 (.inr hx))) l hl with h3 | h3
    · cases (hf e (List.mem_cons.2 (.inl rfl))).kind with
      | skip hw hs hq hr => rw [hq] at h3; exact .inl h3
      | pur hw hc hs hq hr => rw [hq] at h3; exact .inl h3
      | rd hw hc hok hs hq hr => rw [hq] at h3; exact .inl h3
      | eff hnn hw hc hok hlx σ1 hlk hs hq hll hr => rw [hll] at h3; cases h3; exact .inr (by simp)
      | new hn hs hff hll hr => rw [hll] at h3; cases h3; exact .inr (by simp)
    · exact .inr (by simp only [List.map_cons, List.mem_cons]; exact .inr h3)

section
variable {E : List Ent} {r0 r' : RSt} {μ0 : Mu} {h00 : AH} {w0 : World}

/-- What holds at any time: D has come up; A of it has been taken up. -/
structure Hold (P : Program) (gl : Nat → Option Nat) (ops : Array Oper) (bef : List Nat) (E : List Ent) (r0 : RSt) (μ0 : Mu) (h00 : AH) (w0 : World) (D : Nat → Bool) (a : Act) (w : World) (B : Nat → Nat) (A : Nat → Bool) (σ : St) (μ : Mu) : Prop where
  inv : Inv P ops E r0 A σ
  clA : Closed bef A
  sub : ∀ j, A j = true → D j = true
  pend : ∀ e ∈ E, D e.i = true → A e.i = false → isNew e.o = true
  nok : ∀ e ∈ E, isNew e.o = true → A e.i = true → ∀ l, e.p.last = some l → A l = true
  rel : SRel gl μ σ a w
  fr : Fr μ0 h00 w0 μ σ.h w
  pd : ∀ e ∈ E, D e.i = true → A e.i = false → Pend P gl μ σ.h a w w0.heap.size e (B e.i)
  dis : ∀ e ∈ E, ∀ x ∈ E, D e.i = true → A e.i = false → D x.i = true → A x.i = false → e.i ≠ x.i → B e.i ≠ B x.i

theorem new_q {e : Ent} (f : Fact P gl call ops bef e) (hn : isNew e.o = true) : ∃ d z cs, e.o.dst = some d ∧ nRow P (evA gl e.p.σ.T) e.o.op = some (z, cs) ∧ e.q.σ.h = e.p.σ.h.add (.row false z cs) ∧ e.q.σ.ds = e.p.σ.ds ∧ e.q.σ.T.get d = some (nVal e.o.op e.p.σ.h.next) := by
  obtain ⟨hg, ⟨d, hd⟩, hcl, _⟩ := isNew_some (P := P) hn
  have hw : wantA ops e.o e.p.σ.T = some true := by unfold wantA; rw [hg]
  have main : stepA P gl call e.o e.p.σ = some e.q.σ := by
    cases f.kind with
    | skip hw' hs hq hr => rw [hw] at hw'; cases hw'
    | pur hw' hc hs hq hr => rw [hcl] at hc; cases hc
    | rd hw' hc hok hs hq hr => rw [hcl] at hc; cases hc
    | eff hnn hw' hc hok hlx σ1 hlk hs hq hll hr => rw [hn] at hnn; cases hnn
    | new hn hs hff hll hr => exact hs
  obtain ⟨v, h', dd, hv, hp⟩ := stepA_open main
  rw [stepV_new hn] at hv
  split at hv
  · rename_i z cs hrow
    cases hv
    obtain ⟨g1, g2, g3, g4⟩ := putA_get hp
    exact ⟨d, z, cs, hd, hrow, g2, g3, by rw [g4, if_pos hd]⟩
  · cases hv

theorem val_of {e : Ent} {E1 E2 : List Ent} (hch : Chain r0 (E1 ++ e :: E2) r') (h0 : r0.done = 0) (hf : ∀ x ∈ E1 ++ e :: E2, Fact P gl call ops bef x) {x : Ent} (hx : x ∈ E1 ++ e :: E2) (hi : x.i = e.i) : x = e := by
  obtain ⟨o1, o2, _⟩ := order_facts hch h0 hf
  rcases List.mem_append.1 hx with hx | hx
  · exact absurd hi (o1 x hx)
  · rcases List.mem_cons.1 hx with rfl | hx
    · rfl
    · exact absurd hi (o2 x hx)

/-- One row is taken up. -/
theorem adopt1 {D : Nat → Bool} {a : Act} {w : World} {B : Nat → Nat} {A : Nat → Bool} {σ : St} {μ : Mu} {E1 E2 : List Ent} {e : Ent} (hE : E = E1 ++ e :: E2) (hch : Chain r0 E r') (h0 : r0.done = 0) (hf : ∀ x ∈ E, Fact P gl call ops bef x) (hap : apartOk ops bef = true)
    (H : Hold P gl ops bef E r0 μ0 h00 w0 D a w B A σ μ) (hDe : D e.i = true) (hAe : A e.i = false) (hb : ∀ k, (befN bef e.i).testBit k = true → A k = true) (hl : ∀ l, e.p.last = some l → A l = true) :
    ∃ σ' μ', Hold P gl ops bef E r0 μ0 h00 w0 D a w B (fun j => A j || j == e.i) σ' μ' := by
  have heE : e ∈ E := by rw [hE]; exact List.mem_append.2 (.inr (List.mem_cons.2 (.inl rfl)))
  have hn := H.pend e heE hDe hAe
  have hch' := hch
  have hf' := hf
  rw [hE] at hch' hf'
  obtain ⟨d, z, cs, hd, hrow, q1, q2, q3⟩ := new_q (hf e heE) hn
  have hee := (eff_new (P := P) (ops := ops) (e := e) hn).2
  have hN : ∀ x ∈ E1 ++ e :: E2, isNew x.o = true → A x.i = true → ∀ l, x.p.last = some l → A l = true := fun x hx => H.nok x (by rw [hE]; exact hx)
  obtain ⟨d1, d2⟩ := hds_at hch' hf' H.clA hN hAe hl hee
  rw [← hE, ← H.inv.hd] at d1
  rw [← hE] at d2
  have eh : σ.h = e.p.σ.h := (Prod.mk.inj d1).1
  have ed : σ.ds = e.p.σ.ds := (Prod.mk.inj d1).2
  have p := H.pd e heE hDe hAe
  obtain ⟨z', cs', C, ty, c1, c2, c3⟩ := p.cell
  rw [hrow] at c1
  cases c1
  have had := H.rel.heap.adopt z c2 c3 p.far p.nfr
  have hfa := H.fr.adopt H.rel.heap (z := z) (cs := cs) p.new
  have hext : Ext σ.h.next μ (upd μ σ.h.next ⟨B e.i, 0, 0⟩) (fun _ => True) := .upd _ _ _
  have hu : (upd μ σ.h.next ⟨B e.i, 0, 0⟩) σ.h.next = ⟨B e.i, 0, 0⟩ := upd_same _ _ _
  refine ⟨⟨σ.T.set d (some (nVal e.o.op σ.h.next)), σ.n, σ.h.add (.row false z cs), σ.ds⟩, upd μ σ.h.next ⟨B e.i, 0, 0⟩, ⟨fun t => ?_, ?_, H.inv.n⟩, fun j k hj hk => ?_, fun j hj => ?_, fun x hx hDx hAx => ?_, fun x hx hnx hAx l hxl => ?_, ⟨H.rel.size, fun t v ht => ?_, had, H.rel.ds.mono hext (Nat.le_succ _)⟩, hfa, fun x hx hDx hAx => ?_, fun x hx y hy g1 g2 g3 g4 => ?_⟩
  · show (σ.T.set d _).get t = _
    rw [Tr.get_set, hE, val_after hch' h0 hf' hap H.clA hAe t, hd]
    by_cases ht : t = d
    · subst ht
      rw [if_pos rfl, if_pos rfl, q3, eh]
    · rw [if_neg ht, if_neg (fun h => ht (Option.some.inj h).symm), ← hE]
      exact H.inv.T t
  · rw [d2, q1, q2, ← eh, ← ed]
  · simp only [Bool.or_eq_true, beq_iff_eq] at hj ⊢
    rcases hj with hj | hj
    · exact .inl (H.clA j k hj hk)
    · subst hj; exact .inl (hb k hk)
  · simp only [Bool.or_eq_true, beq_iff_eq] at hj
    rcases hj with hj | hj
    · exact H.sub j hj
    · rw [hj]; exact hDe
  · simp only [Bool.or_eq_false_iff] at hAx
    exact H.pend x hx hDx hAx.1
  · simp only [Bool.or_eq_true, beq_iff_eq] at hAx ⊢
    rcases hAx with hAx | hAx
    · exact .inl (H.nok x hx hnx hAx l hxl)
    · have := val_of hch' h0 hf' (by rw [← hE]; exact hx) hAx
      subst this
      exact .inl (hl l hxl)
  · dsimp only at ht
    rw [Tr.get_set] at ht
    split at ht
    · rename_i htd
      cases ht
      subst htd
      exact ⟨_, p.tmp _ hd, nPhy_rel hn (by show σ.h.next < σ.h.next + 1; omega) hu⟩
    · obtain ⟨c, g1, g2⟩ := H.rel.tmps t v ht
      exact ⟨c, g1, g2.mono hext (Nat.le_succ _)⟩
  · simp only [Bool.or_eq_false_iff, beq_eq_false_iff_ne] at hAx
    have px := H.pd x hx hDx hAx.1
    obtain ⟨zx, csx, Cx, tx, k1, k2, k3⟩ := px.cell
    refine ⟨px.tmp, ⟨zx, csx, Cx, tx, k1, k2, k3.mono hext (Nat.le_succ _)⟩, fun j b hj => ?_, px.new, px.nfr⟩
    rw [AH.get_add] at hj
    split at hj
    · rename_i hj'
      subst hj'
      rw [hu]
      exact H.dis e heE x hx hDe hAe hDx hAx.1 (fun h => hAx.2 h.symm)
    · rw [hext.loc j (H.rel.heap.lt j b hj)]
      exact px.far j b hj
  · simp only [Bool.or_eq_false_iff] at g2 g4
    exact H.dis x hx y hy g1 g2.1 g3 g4.1

/-- All that S names is taken up. -/
theorem settle {D : Nat → Bool} {a : Act} {w : World} {B : Nat → Nat} (hch : Chain r0 E r') (h0 : r0.done = 0) (hl0 : r0.last = none) (hf : ∀ x ∈ E, Fact P gl call ops bef x) (hap : apartOk ops bef = true) {S : Nat → Bool} (hS1 : ∀ j, S j = true → D j = true) (hS2 : Closed bef S)
    (hS3 : ∀ e ∈ E, isNew e.o = true → S e.i = true → ∀ l, e.p.last = some l → S l = true) : ∀ (E2 E1 : List Ent), E = E1 ++ E2 → ∀ (A : Nat → Bool) (σ : St) (μ : Mu), Hold P gl ops bef E r0 μ0 h00 w0 D a w B A σ μ → (∀ x ∈ E1, S x.i = true → A x.i = true) →
    ∃ A' σ' μ', Hold P gl ops bef E r0 μ0 h00 w0 D a w B A' σ' μ' ∧ (∀ x ∈ E, S x.i = true → A' x.i = true) := by
  intro E2
  induction E2 with
  | nil => intro E1 hE A σ μ H hA; rw [List.append_nil] at hE; subst hE; exact ⟨A, σ, μ, H, hA⟩
  | cons e E2 ih =>
    intro E1 hE A σ μ H hA
    have hE' : E = (E1 ++ [e]) ++ E2 := by rw [hE]; simp
    have heE : e ∈ E := by rw [hE]; exact List.mem_append.2 (.inr (List.mem_cons.2 (.inl rfl)))
    cases hS : S e.i with
    | false =>
      refine ih _ hE' A σ μ H fun x hx hSx => ?_
      rcases List.mem_append.1 hx with hx | hx
      · exact hA x hx hSx
      · rw [List.mem_singleton.1 hx, hS] at hSx; cases hSx
    | true =>
      cases hAe : A e.i with
      | true =>
        refine ih _ hE' A σ μ H fun x hx hSx => ?_
        rcases List.mem_append.1 hx with hx | hx
        · exact hA x hx hSx
        · rw [List.mem_singleton.1 hx]; exact hAe
      | false =>
        have hDe := hS1 _ hS
        have hn := H.pend e heE hDe hAe
        have hch' := hch
        have hf' := hf
        rw [hE] at hch' hf'
        obtain ⟨o1, o2, o3, o4, o5⟩ := order_facts hch' h0 hf'
        have hb : ∀ k, (befN bef e.i).testBit k = true → A k = true := fun k hk => by
          obtain ⟨x, hx, hxi⟩ := List.mem_map.1 (o3 k hk)
          rw [← hxi]
          exact hA x hx (by rw [hxi]; exact hS2 _ _ hS hk)
        have hl : ∀ l, e.p.last = some l → A l = true := fun l hel => by
          rcases Chain.last hch'.split.1 (fun x hx => hf' x (List.mem_append.2 (.inl hx))) l hel with h1 | h1
          · rw [hl0] at h1; cases h1
          · obtain ⟨x, hx, hxi⟩ := List.mem_map.1 h1
            rw [← hxi]
            exact hA x hx (by rw [hxi]; exact hS3 e heE hn hS l hel)
        obtain ⟨σ', μ', H'⟩ := adopt1 hE hch h0 hf hap H hDe hAe hb hl
        refine ih _ hE' _ σ' μ' H' fun x hx hSx => ?_
        rcases List.mem_append.1 hx with hx | hx
        · rw [hA x hx hSx]; rfl
        · rw [List.mem_singleton.1 hx]; simp
end

end Go.Proofs.YtachednafdmmaaaGreatDoor.AI.N
