/- The abstract interpreter: regions whose order is drawn, all of it. -/
import Derived.Test.YtachednafdmmaaaDoorAIu
namespace Go.Proofs.YtachednafdmmaaaDoor.AI
open Go
set_option linter.unusedVariables false
set_option linter.unusedSimpArgs false

variable {P : Program} {gl : Nat → Option Nat} {call : CallA} {ops : Array Oper} {bef : List Nat}

/-- Do the operations that may change the heap wait for one another? -/
def linOk (P : Program) (ops : Array Oper) (bef : List Nat) : List Nat → Option Nat → Bool
  | [], _ => true
  | i :: l, last => match ops.toList[i]? with
    | some o => bif Nat.beq (clsA P o.op) 0 then linOk P ops bef l last
      else lastOk (befN bef i) last && linOk P ops bef l (bif Nat.ble 2 (clsA P o.op) then some i else last)
    | none => false

/-- Each waits for all before. -/
def chk (ops : Array Oper) (bef : List Nat) : Nat → List Nat → Bool
  | _, [] => true
  | m, j :: R => Nat.beq (befN bef j) m && !m.testBit j && Nat.blt j ops.size && chk ops bef (m ||| 2 ^ j) R

def seqA (P : Program) (gl : Nat → Option Nat) (call : CallA) (ops : Array Oper) : List Nat → St → Option St
  | [], σ => some σ
  | j :: R, σ => match ops.toList[j]? with
    | some o => match doA P gl call ops o σ with
      | some σ1 => seqA P gl call ops R σ1
      | none => none
    | none => none

theorem chk_mem : ∀ {R : List Nat} {m : Nat}, chk ops bef m R = true → ∀ i ∈ R, ∀ k, m.testBit k = true → (befN bef i).testBit k = true := by
  intro R
  induction R with
  | nil => intro m _ i hi; simp at hi
  | cons j R ih =>
    intro m h i hi k hk
    unfold chk at h
    simp only [Bool.and_eq_true] at h
    rcases List.mem_cons.1 hi with rfl | hi
    · rw [Nat.eq_of_beq_eq_true h.1.1.1]; exact hk
    · exact ih h.2 i hi k (by rw [testBit_done, hk]; rfl)

theorem seqB (hbef : befOk ops bef = true) (hcall : CallOK P gl call) {Q : Exit → Act → World → Prop} {μ0 : Mu} {h00 : AH} {w0 : World} : ∀ (R : List Nat) (m : Nat) (σ σ' : St), chk ops bef m R = true → seqA P gl call ops R σ = some σ' →
    ∀ (fuel : Nat) (listed : Array Bool) (a : Act) (w : World) (μ : Mu), listed.size = ops.size → (∀ i, listed.getD i false = m.testBit i) → (∀ i, i < ops.size → listed.getD i false = false → i ∈ R) → Closed bef (fun j => listed.getD j false) →
    ((List.range ops.size).filter fun j => !listed.getD j false).length ≤ fuel → SRel gl μ σ a w → Fr μ0 h00 w0 μ σ.h w → (∀ a' w' μ', SRel gl μ' σ' a' w' → Fr μ0 h00 w0 μ' σ'.h w' → Q .normal a' w') → wpAny P .any ops Q fuel listed a w := by
  intro R
  induction R with
  | nil =>
    intro m σ σ' _ hr fuel listed a w μ hsz hlm hR hcl hle hs hfr hQ
    cases hr
    have none : ∀ i, i ∉ Region.ready .any ops listed := fun i hi => by
      rw [mem_ready] at hi
      obtain ⟨h1, o, h2, _⟩ := hi
      have hlt : i < ops.size := (Array.getElem?_eq_some_iff.1 h2).1
      have := hR i hlt ((getD_false (by rw [hsz]; exact hlt)).1 h1)
      simp at this
    have hnil : Region.ready .any ops listed = [] := List.eq_nil_iff_forall_not_mem.2 none
    cases fuel with
    | zero => exact ⟨hnil, hQ a w μ hs hfr⟩
    | succ fuel => exact ⟨fun _ => hQ a w μ hs hfr, fun i hi => absurd hi (none i)⟩
  | cons j R ih =>
    intro m σ σ' hc hr fuel listed a w μ hsz hlm hR hcl hle hs hfr hQ
    have hc0 := hc
    unfold chk at hc
    simp only [Bool.and_eq_true, Bool.not_eq_true'] at hc
    obtain ⟨⟨⟨hbj, hmj⟩, hjl⟩, hcR⟩ := hc
    have hbj := Nat.eq_of_beq_eq_true hbj
    have hlt : j < ops.size := Nat.le_of_ble_eq_true hjl
    have hlj : listed.getD j false = false := by rw [hlm]; exact hmj
    unfold seqA at hr
    split at hr
    · rename_i o ho
      have hop : ops[j]? = some o := by rw [← Array.getElem?_toList]; exact ho
      have hjr : j ∈ Region.ready .any ops listed := by
        rw [mem_ready]
        refine ⟨(getD_false (by rw [hsz]; exact hlt)).2 hlj, o, hop, fun ed hed hbd => ?_⟩
        have hbit : (befN bef j).testBit ed.on = true := (bef_bit hbef ho ed.on).2 ⟨ed, by simpa using hed, hbd, .inl rfl⟩
        rw [hlm, ← hbj]
        exact hbit
      cases fuel with
      | zero =>
        exfalso
        have : j ∈ (List.range ops.size).filter fun j => !listed.getD j false := List.mem_filter.2 ⟨List.mem_range.2 hlt, by rw [hlj]; rfl⟩
        have hl : ((List.range ops.size).filter fun j => !listed.getD j false) = [] := List.eq_nil_of_length_eq_zero (by omega)
        rw [hl] at this
        simp at this
      | succ fuel =>
        refine ⟨fun hn => by rw [hn] at hjr; simp at hjr, fun i hi => ?_⟩
        have hij : i = j := by
          rw [mem_ready] at hi
          obtain ⟨h1, oi, h2, h3⟩ := hi
          have hlti : i < ops.size := (Array.getElem?_eq_some_iff.1 h2).1
          rcases List.mem_cons.1 (hR i hlti ((getD_false (by rw [hsz]; exact hlti)).1 h1)) with h4 | h4
          · exact h4
          · exfalso
            have hb := chk_mem hcR i h4 j (by rw [testBit_done]; simp)
            obtain ⟨ed, e1, e2, e3⟩ := (bef_bit hbef (by rw [Array.getElem?_toList]; exact h2) j).1 hb
            have e4 := h3 ed (by simpa using e1) e2
            rcases e3 with e3 | e3
            · rw [e3, hlj] at e4; cases e4
            · have := hcl ed.on j e4 e3
              simp only at this
              rw [hlj] at this; cases this
        subst hij
        split at hr
        · rename_i σ1 hd
          have hD' : (fun k => (listed.setIfInBounds i true).getD k false) = fun k => (fun k => listed.getD k false) k || k == i := by
            funext k
            by_cases hk : k = i
            · subst hk
              simp [Array.getD_eq_getD_getElem?, Array.getElem?_setIfInBounds_self_of_lt (show k < listed.size by rw [hsz]; exact hlt)]
            · have : (k == i) = false := by simpa using hk
              simp [Array.getD_eq_getD_getElem?, Array.getElem?_setIfInBounds_ne (fun h => hk h.symm : i ≠ k), this]
          have hDp : ∀ k, (listed.setIfInBounds i true).getD k false = (listed.getD k false || k == i) := fun k => congrFun hD' k
          have hle' : ((List.range ops.size).filter fun j => !(listed.setIfInBounds i true).getD j false).length ≤ fuel := by
            have hfun : (fun j => !(listed.setIfInBounds i true).getD j false) = fun j => !(listed.getD j false || j == i) := funext fun j => by rw [hDp j]
            rw [hfun]
            have := length_filter_lt (p := fun j => !listed.getD j false) (q := fun j => !(listed.getD j false || j == i)) (l := List.range ops.size)
              (fun x _ hx => by simp only [Bool.not_eq_true', Bool.or_eq_false_iff] at hx ⊢; exact hx.1) (y := i) (List.mem_range.2 hlt) (by rw [hlj]; rfl) (by simp)
            omega
          have next : ∀ (a' : Act) (w' : World) (μ' : Mu), SRel gl μ' σ1 a' w' → Fr μ σ.h w μ' σ1.h w' → wpAny P .any ops Q fuel (listed.setIfInBounds i true) a' w' := fun a' w' μ' h1 h2 => by
            refine ih (m ||| 2 ^ i) σ1 σ' hcR hr fuel _ a' w' μ' (by rw [Array.size_setIfInBounds]; exact hsz) (fun k => ?_) (fun k hk hkf => ?_) ?_ hle' h1 (hfr.trans h2) hQ
            · rw [hDp k, hlm k, testBit_done]
              by_cases hk : k = i
              · simp [hk]
              · have : (k == i) = false := by simpa using hk
                have h' : decide (i = k) = false := by simpa using fun h => hk h.symm
                rw [this, h']
            · rw [hDp k, Bool.or_eq_false_iff] at hkf
              rcases List.mem_cons.1 (hR k hk hkf.1) with h4 | h4
              · subst h4; simp at hkf
              · exact h4
            · rw [hD']
              intro k l hk hl
              simp only [Bool.or_eq_true, beq_iff_eq] at hk ⊢
              rcases hk with hk | hk
              · exact .inl (hcl k l hk hl)
              · subst hk
                rw [hbj] at hl
                exact .inl (by rw [hlm]; exact hl)
          have := doA_ok (Q := Q) (K := wpAny P .any ops Q fuel (listed.setIfInBounds i true)) hcall hd hs (fun a' w' μ' h1 h2 => next a' w' μ' h1 h2)
          unfold wpOp
          rw [hop]
          exact this
        · cases hr
    · cases hr

def fltOk (P : Program) (ops : Array Oper) (bef : List Nat) (F : List Flt) (R1 R2 ord : List Nat) (n : Nat) : Bool :=
  befOk ops bef && apartOk ops bef && ord.all (fun i => R1.any (Nat.beq i)) && R1.all (fun i => ord.any (Nat.beq i)) &&
  F.all (fun f => Nat.blt f.d n && !R1.any (Nat.beq f.i) && !R2.any (Nat.beq f.i) && F.all (fun g => Nat.beq f.i g.i || !Nat.beq f.d g.d) &&
    R1.all fun i => match ops.toList[i]? with
      | some o => match o.dst with
        | some d => !Nat.beq d f.d
        | none => true
      | none => true) &&
  R1.all (fun i => !R2.any (Nat.beq i)) && chk ops bef (maskOf (R1 ++ F.map (·.i))) R2 &&
  (List.range ops.size).all (fun i => R1.any (Nat.beq i) || R2.any (Nat.beq i) || F.any (fun f => Nat.beq f.i i)) && (R1 ++ F.map (·.i)).all (fun i => Nat.blt i ops.size)

def fltWith (P : Program) (gl : Nat → Option Nat) (call : CallA) (ops : Array Oper) (bef : List Nat) (F : List Flt) (R1 R2 ord : List Nat) (σ : St) : Option St :=
  bif fltOk P ops bef F R1 R2 ord σ.n then match runR P gl call ops bef ord ⟨{ σ with T := clearT F σ.T }, 0, none, []⟩ with
    | some r => match allocF P F r.σ with
      | some σ2 => seqA P gl call ops R2 σ2
      | none => none
    | none => none
  else none

def regF0 (P : Program) (gl : Nat → Option Nat) : CallA → Array Oper → St → Option St := fun call ops σ =>
  let bef := (Region.before ops).toList
  let all := List.range ops.toList.length
  bif linOk P ops bef (orderA P ops bef ops.toList.length 0 all) none then theReg P gl call ops σ
  else
    let F := all.filterMap (floatOf ops bef)
    let fm := maskOf (F.map (·.i))
    let R1 := all.filter fun i => Nat.beq (Nat.land (befN bef i) fm) 0 && !fm.testBit i
    let R2 := all.filter fun i => !Nat.beq (Nat.land (befN bef i) fm) 0 && !fm.testBit i
    fltWith P gl call ops bef F R1 R2 (orderA P ops bef ops.toList.length 0 R1) σ

theorem any_beq {l : List Nat} {i : Nat} : l.any (Nat.beq i) = true ↔ i ∈ l := by
  rw [List.any_eq_true]
  constructor
  · rintro ⟨x, hx, h⟩
    have := Nat.eq_of_beq_eq_true h
    rw [this]; exact hx
  · intro h
    exact ⟨i, h, Nat.beq_refl i⟩

theorem allocF_zero : ∀ {F : List Flt} {σ σ' : St}, allocF P F σ = some σ' → ∀ f ∈ F, ∃ z, zeroA P f.t = some z := by
  intro F
  induction F with
  | nil => intro σ σ' _ f hf; simp at hf
  | cons g F ih =>
    intro σ σ' h f hf
    unfold allocF at h
    split at h
    · rename_i z hz
      rcases List.mem_cons.1 hf with rfl | hf
      · exact ⟨z, hz⟩
      · exact ih h f hf
    · cases h

theorem regF0_ok (hm : P.follows .mixedOrders = true) : RegOK P gl (regF0 P gl) := by
  intro call hcall id ops σ σ' hr μ a w hs
  unfold regF0 at hr
  generalize hbd : (Region.before ops).toList = bef at hr
  cases hl : linOk P ops bef (orderA P ops bef ops.toList.length 0 (List.range ops.toList.length)) none with
  | true =>
    simp only [hl, cond_true] at hr
    exact theReg_ok hm call hcall id ops σ σ' hr μ a w hs
  | false =>
    simp only [hl, cond_false] at hr
    have hFO : ∀ f ∈ (List.range ops.toList.length).filterMap (floatOf ops bef), floatOf ops bef f.i = some f := fun f hf => by
      obtain ⟨i, _, hi⟩ := List.mem_filterMap.1 hf
      rw [(floatOf_some hi).1]; exact hi
    have hFN : ((List.range ops.toList.length).filterMap (floatOf ops bef)).Nodup := by
      have hn : (List.range ops.toList.length).Pairwise (· ≠ ·) := List.nodup_range
      refine List.Pairwise.filterMap _ (fun a a' hne b hb b' hb' h => ?_) hn
      subst h
      exact hne ((floatOf_some hb).1.symm.trans (floatOf_some hb').1)
    generalize (List.range ops.toList.length).filterMap (floatOf ops bef) = F at hr hFO hFN
    generalize (List.range ops.toList.length).filter (fun i => Nat.beq (Nat.land (befN bef i) (maskOf (F.map (·.i)))) 0 && !(maskOf (F.map (·.i))).testBit i) = R1 at hr
    generalize (List.range ops.toList.length).filter (fun i => !Nat.beq (Nat.land (befN bef i) (maskOf (F.map (·.i)))) 0 && !(maskOf (F.map (·.i))).testBit i) = R2 at hr
    generalize orderA P ops bef ops.toList.length 0 R1 = ord at hr
    unfold fltWith at hr
    cases hok : fltOk P ops bef F R1 R2 ord σ.n with
    | false => rw [hok] at hr; cases hr
    | true =>
      rw [hok] at hr
      simp only [cond_true] at hr
      split at hr
      · rename_i r hrun
        split at hr
        · rename_i σ2 hal
          unfold fltOk at hok
          simp only [Bool.and_eq_true] at hok
          obtain ⟨⟨⟨⟨⟨⟨⟨⟨hbef, hap⟩, ho1⟩, ho2⟩, hFa⟩, hR12⟩, hchk⟩, hcov⟩, hsm⟩ := hok
          rw [List.all_eq_true] at ho1 ho2 hFa hR12 hcov hsm
          obtain ⟨E, h1, h2, h3⟩ := runR_chain ord _ _ hrun
          have hE1 : ∀ e ∈ E, e.i ∈ R1 := fun e he => any_beq.1 (ho1 _ (by rw [← h1]; exact List.mem_map_of_mem he))
          have hF1 : ∀ f ∈ F, f.d < σ.n ∧ f.i ∉ R1 ∧ f.i ∉ R2 ∧ (∀ g ∈ F, f.i ≠ g.i → f.d ≠ g.d) ∧ ∀ i ∈ R1, ∀ o, ops.toList[i]? = some o → o.dst ≠ some f.d := fun f hf => by
            have := hFa f hf
            simp only [Bool.and_eq_true, Bool.not_eq_true'] at this
            obtain ⟨⟨⟨⟨g1, g2⟩, g3⟩, g4⟩, g5⟩ := this
            refine ⟨Nat.le_of_ble_eq_true g1, fun h => ?_, fun h => ?_, fun g hg hne hd => ?_, fun i hi o ho hd => ?_⟩
            · rw [any_beq.2 h] at g2; cases g2
            · rw [any_beq.2 h] at g3; cases g3
            · rw [List.all_eq_true] at g4
              have := g4 g hg
              simp only [Bool.or_eq_true, Bool.not_eq_true'] at this
              rcases this with h' | h'
              · exact hne (Nat.eq_of_beq_eq_true h')
              · rw [hd, Nat.beq_refl] at h'; cases h'
            · rw [List.all_eq_true] at g5
              have := g5 i hi
              rw [ho] at this
              dsimp only at this
              rw [hd] at this
              dsimp only at this
              rw [Nat.beq_refl] at this
              cases this
          have hmask : ∀ k, (maskOf (R1 ++ F.map (·.i))).testBit k = true ↔ (k ∈ R1 ∨ ∃ f ∈ F, f.i = k) := fun k => by
            rw [maskOf_bit, List.mem_append, List.mem_map]
          refine wp_region_any hm ?_
          have hD : (fun j => (Array.replicate ops.size false).getD j false) = fun _ => false := by
            funext j
            simp only [Array.getD_eq_getD_getElem?, Array.getElem?_replicate]
            split <;> rfl
          have hDp : ∀ j, (Array.replicate ops.size false).getD j false = false := fun j => congrFun hD j
          refine simF (F := F) (R2 := R2) (μ0 := μ) (h00 := σ.h) (w0 := { w with drawn := w.drawn + 1 }) h3 rfl h2 hbef hap hcall (fun i hi => ?_) (fun f hf => ?_) (fun f hf e he => ?_) (fun f hf g hg => (hF1 f hf).2.2.2.1 g hg) (fun j hj => ?_) (fun e he h => ?_) (fun f hf => (hF1 f hf).2.2.1)
            (fun f hf => ?_) (fun f hf => (hF1 f hf).1) ?_ ops.size (Array.replicate ops.size false) a _ μ { σ with T := clearT F σ.T } (fun _ => 0) (by simp) ?_ ?_ ⟨hs.size, fun t v ht => ?_, hs.heap.drew, hs.ds⟩ ?_ (.refl _ _ _) (fun j hj => hDp j) (fun f hf h => ?_) (fun f hf g hg h => ?_)
          · have := hcov i (List.mem_range.2 hi)
            simp only [Bool.or_eq_true] at this
            rcases this with (h | h) | h
            · have := ho2 i (any_beq.1 h)
              have hio := any_beq.1 this
              rw [← h1] at hio
              obtain ⟨e, he, hei⟩ := List.mem_map.1 hio
              exact .inl ⟨e, he, hei⟩
            · exact .inr (.inr (any_beq.1 h))
            · rw [List.any_eq_true] at h
              obtain ⟨f, hf, hfi⟩ := h
              exact .inr (.inl ⟨f, hf, Nat.eq_of_beq_eq_true hfi⟩)
          · obtain ⟨_, o, k1, k2, k3, k4, k5⟩ := floatOf_some (hFO f hf)
            exact ⟨⟨o, k1, k2, k3, k4⟩, k5, allocF_zero hal f hf⟩
          · exact ⟨(hF1 f hf).2.2.2.2 e.i (hE1 e he) e.o (h2 e he).op, fun h => (hF1 f hf).2.1 (h ▸ hE1 e he)⟩
          · have := chk_mem hchk j hj
            exact ⟨fun e he => this _ ((hmask _).2 (.inl (hE1 e he))), fun f hf => this _ ((hmask _).2 (.inr ⟨f, hf, rfl⟩))⟩
          · have := hR12 e.i (hE1 e he)
            rw [any_beq.2 h] at this
            cases this
          · rcases clearT_get F σ.T f.d with h | ⟨h, _⟩
            · exact h
            · exact absurd (List.mem_map_of_mem hf) h
          · intro fuel listed a' w' μ' σ'' B hsz hall hallF hR hcl hle hs' hfr hp hne
            obtain ⟨μ2, k1, k2⟩ := allocF_ok F _ σ2 μ' (fun f => B f.i) hal hs' hfr hp (by
              have hnd : ∀ (l : List Flt), (∀ f ∈ l, f ∈ F) → l.Nodup → (l.map fun f => B f.i).Nodup := by
                intro l
                induction l with
                | nil => intro _ _; simp
                | cons x l ih =>
                  intro hm' hnd
                  simp only [List.nodup_cons] at hnd
                  simp only [List.map_cons, List.nodup_cons]
                  refine ⟨fun hx => ?_, ih (fun f hf => hm' f (by simp [hf])) hnd.2⟩
                  obtain ⟨g, hg, hge⟩ := List.mem_map.1 hx
                  by_cases hi : g.i = x.i
                  · have e1 := hFO g (hm' g (by simp [hg]))
                    have e2 := hFO x (hm' x (by simp))
                    rw [hi, e2] at e1
                    exact hnd.1 (Option.some.inj e1 ▸ hg)
                  · exact hne g (hm' g (by simp [hg])) x (hm' x (by simp)) hi hge
              exact hnd F (fun f hf => hf) hFN)
            refine seqB hbef hcall R2 _ σ2 σ' hchk hr fuel listed a' w' μ2 hsz (fun i => ?_) (fun i hi hf => ?_) hcl hle k1 k2 (fun a'' w'' μ'' k3 k4 => ⟨rfl, μ'', k3, k4.drew⟩)
            · cases hb : (maskOf (R1 ++ F.map (·.i))).testBit i with
              | true =>
                rcases (hmask i).1 hb with h | ⟨f, hf, h⟩
                · have hio := any_beq.1 (ho2 i h)
                  rw [← h1] at hio
                  obtain ⟨e, he, hei⟩ := List.mem_map.1 hio
                  rw [← hei]; exact hall e he
                · rw [← h]; exact hallF f hf
              | false =>
                by_cases hi : i < ops.size
                · have := hcov i (List.mem_range.2 hi)
                  simp only [Bool.or_eq_true] at this
                  rcases this with (h | h) | h
                  · rw [(hmask i).2 (.inl (any_beq.1 h))] at hb; cases hb
                  · exact hR i (any_beq.1 h)
                  · rw [List.any_eq_true] at h
                    obtain ⟨f, hf, hfi⟩ := h
                    rw [(hmask i).2 (.inr ⟨f, hf, Nat.eq_of_beq_eq_true hfi⟩)] at hb; cases hb
                · simp [Array.getD_eq_getD_getElem?, Array.getElem?_eq_none (show listed.size ≤ i by omega)]
            · have := hcov i (List.mem_range.2 hi)
              simp only [Bool.or_eq_true] at this
              rcases this with (h | h) | h
              · have hio := any_beq.1 (ho2 i (any_beq.1 h))
                rw [← h1] at hio
                obtain ⟨e, he, hei⟩ := List.mem_map.1 hio
                have := hall e he
                rw [hei, hf] at this; cases this
              · exact any_beq.1 h
              · rw [List.any_eq_true] at h
                obtain ⟨f, hf', hfi⟩ := h
                have := hallF f hf'
                rw [Nat.eq_of_beq_eq_true hfi, hf] at this; cases this
          · rw [hD]
            exact ⟨fun t => (valD_none fun _ _ _ => rfl).symm, (hdsD_none fun _ _ _ => rfl).symm, rfl⟩
          · rw [hD]
            intro j k hj
            cases hj
          · dsimp only at ht
            rcases clearT_get F σ.T t with h | ⟨_, h⟩
            · rw [h] at ht; cases ht
            · rw [h] at ht; exact hs.tmps t v ht
          · exact Nat.le_trans (List.length_filter_le _ _) (by simp)
          · rw [hDp f.i] at h; cases h
          · rw [hDp f.i] at h; cases h
        · cases hr
      · cases hr

end Go.Proofs.YtachednafdmmaaaDoor.AI
