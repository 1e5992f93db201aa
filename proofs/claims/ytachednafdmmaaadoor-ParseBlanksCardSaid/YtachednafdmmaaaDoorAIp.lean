/- The abstract interpreter: locks, and the trace of a region. -/
import Derived.Test.YtachednafdmmaaaDoorAIo
namespace Go.Proofs.YtachednafdmmaaaDoor.AI
open Go
set_option linter.unusedVariables false
set_option linter.unusedSimpArgs false

variable {P : Program} {gl : Nat → Option Nat}

theorem Blk.lock_lock (b : Blk) : b.lock.lock = b.lock := by
  cases b with
  | row r z cs => show Blk.row true (unz (unz z)) cs = Blk.row true (unz z) cs; rw [unz_unz]
  | mp r es => rfl
theorem Blk.lock_ro (b : Blk) : b.lock.ro = true := by cases b <;> rfl

theorem lockAll_get : ∀ (lk : List Nat) (h hl : AH), lockAll lk h = some hl → hl.next = h.next ∧ (∀ i ∈ lk, ∃ b, h.get i = some b ∧ hl.get i = some b.lock) ∧ (∀ i, i ∉ lk → hl.get i = h.get i) := by
  intro lk
  induction lk with
  | nil => intro h hl e; cases e; exact ⟨rfl, fun i hi => by simp at hi, fun _ _ => rfl⟩
  | cons b r ih =>
    intro h hl e
    simp only [lockAll] at e
    split at e
    · rename_i x hx
      obtain ⟨e1, e2, e3⟩ := ih _ _ e
      have hp : ∀ i, (h.put b x.lock).get i = if i = b then some x.lock else h.get i := fun i => AH.get_put _ _ _ _
      refine ⟨e1, fun i hi => ?_, fun i hi => ?_⟩
      · by_cases hir : i ∈ r
        · obtain ⟨y, h1, h2⟩ := e2 i hir
          rw [hp] at h1
          split at h1
          · rename_i hib
            subst hib
            cases h1
            refine ⟨x, hx, ?_⟩
            rw [h2]
            exact congrArg some (Blk.lock_lock x)
          · exact ⟨y, h1, h2⟩
        · have hib : i = b := by
            rcases List.mem_cons.1 hi with h1 | h1
            · exact h1
            · exact absurd h1 hir
          subst hib
          refine ⟨x, hx, ?_⟩
          rw [e3 i hir, hp, if_pos rfl]
      · rw [e3 i (fun h1 => hi (List.mem_cons.2 (.inr h1))), hp, if_neg (fun h1 => hi (List.mem_cons.2 (.inl h1)))]
    · cases e

theorem unlockAll_get (h0 : AH) : ∀ (lk : List Nat) (h : AH), (unlockAll h0 lk h).next = h.next ∧ (∀ i ∈ lk, (unlockAll h0 lk h).get i = h0.get i) ∧ (∀ i, i ∉ lk → (unlockAll h0 lk h).get i = h.get i) := by
  intro lk
  induction lk with
  | nil => intro h; exact ⟨rfl, fun i hi => by simp at hi, fun _ _ => rfl⟩
  | cons b r ih =>
    intro h
    simp only [unlockAll]
    obtain ⟨e1, e2, e3⟩ := ih ⟨h.m.set b (h0.get b), h.next⟩
    have hp : ∀ i, (⟨h.m.set b (h0.get b), h.next⟩ : AH).get i = if i = b then h0.get b else h.get i := fun i => Tr.get_set _ _ _ _
    refine ⟨e1, fun i hi => ?_, fun i hi => ?_⟩
    · by_cases hir : i ∈ r
      · exact e2 i hir
      · have hib : i = b := by
          rcases List.mem_cons.1 hi with h1 | h1
          · exact h1
          · exact absurd h1 hir
        subst hib
        rw [e3 i hir, hp, if_pos rfl]
    · rw [e3 i (fun h1 => hi (List.mem_cons.2 (.inr h1))), hp, if_neg (fun h1 => hi (List.mem_cons.2 (.inl h1)))]

theorem lock_rel {μ : Mu} {h hl : AH} {w : World} {lk : List Nat} (e : lockAll lk h = some hl) (hh : HRel gl μ h w) : HRel gl μ hl w := by
  obtain ⟨e1, e2, e3⟩ := lockAll_get lk h hl e
  have back : ∀ (i : Nat) (b : Blk), hl.get i = some b → ∃ b', h.get i = some b' ∧ (b = b' ∨ b = b'.lock) := fun i b hb => by
    by_cases hi : i ∈ lk
    · obtain ⟨x, h1, h2⟩ := e2 i hi
      rw [h2] at hb
      cases hb
      exact ⟨x, h1, .inr rfl⟩
    · rw [e3 i hi] at hb
      exact ⟨b, hb, .inl rfl⟩
  refine ⟨⟨fun i b hb => ?_, fun i b hb => ?_, fun i j bi bj hi hj hne hro => ?_, fun g i hg => by rw [e1]; exact hh.glob g i hg⟩, fun B C hB => ⟨(hh.fz B C hB).1, fun ⟨i, b, hi, hro, hb⟩ => ?_⟩⟩
  rotate_left 3
  · obtain ⟨b', h1, h2⟩ := back i b hi
    rcases h2 with rfl | rfl
    · exact (hh.fz B C hB).2 ⟨i, _, h1, hro, hb⟩
    · rw [Blk.lock_ro] at hro; cases hro
  · obtain ⟨b', h1, _⟩ := back i b hb
    rw [e1]; exact hh.lt i b' h1
  · obtain ⟨b', h1, h2⟩ := back i b hb
    rw [e1]
    have := hh.blk i b' h1
    rcases h2 with rfl | rfl
    · exact this
    · cases b' with
      | row ro z cs =>
        obtain ⟨C, e, fz, hr⟩ := this
        exact ⟨C, e, fz, hr.at_, Nat.le_trans (Nat.add_le_add_left (Nat.mul_le_mul_left _ (unz_le z)) _) hr.fits, hr.cells, fun h => (by cases h), fun _ hz => absurd hz (unz_ne z)⟩
      | mp ro es => exact this
  · obtain ⟨b1, h1, h2⟩ := back i bi hi
    obtain ⟨b2, h3, h4⟩ := back j bj hj
    rcases h2 with rfl | rfl
    · exact hh.sep i j _ b2 h1 h3 hne hro
    · rw [Blk.lock_ro] at hro; cases hro

theorem unlock_rel {μ μ' : Mu} {h hl h1 : AH} {w w' : World} {lk : List Nat} (e : lockAll lk h = some hl) (hh : HRel gl μ h w) (h1h : HRel gl μ' h1 w') (f : Fr μ hl w μ' h1 w') :
    HRel gl μ' (unlockAll h lk h1) w' ∧ Fr μ h w μ' (unlockAll h lk h1) w' := by
  obtain ⟨e1, e2, e3⟩ := lockAll_get lk h hl e
  obtain ⟨u1, u2, u3⟩ := unlockAll_get h lk h1
  have hlk : ∀ i ∈ lk, ∃ b, h.get i = some b ∧ h1.get i = some b.lock := fun i hi => by
    obtain ⟨x, h2, h3⟩ := e2 i hi
    exact ⟨x, h2, f.ro i _ h3 (Blk.lock_ro x)⟩
  have hwr : ∀ B, Wr μ hl B → Wr μ h B := fun B ⟨i, b, h2, h3, h4⟩ => by
    by_cases hi : i ∈ lk
    · obtain ⟨x, h5, h6⟩ := e2 i hi
      rw [h6] at h2
      cases h2
      rw [Blk.lock_ro] at h3
      cases h3
    · rw [e3 i hi] at h2
      exact ⟨i, b, h2, h3, h4⟩
  have hext : ∀ i b, h.get i = some b → μ' i = μ i := fun i b hb => f.ext.loc i (by rw [e1]; exact hh.lt i b hb)
  have hstay : ∀ i ∈ lk, ∀ b, h.get i = some b → w'.heap[(μ i).b]? = w.heap[(μ i).b]? := fun i hi b hb => by
    refine f.keep _ (hh.blk i b hb).lt fun ⟨j, bj, h2, h3, h4⟩ => ?_
    by_cases hj : j ∈ lk
    · obtain ⟨x, h5, h6⟩ := e2 j hj
      rw [h6] at h2
      cases h2
      rw [Blk.lock_ro] at h3
      cases h3
    · rw [e3 j hj] at h2
      exact hh.sep j i bj b h2 hb (fun e => hj (e ▸ hi)) h3 h4
  have hfz : ∀ B C, μ'.fr B = some C → (∃ e fz, w'.heap[B]? = some (.cells C e fz)) ∧ ¬ Wr μ' (unlockAll h lk h1) B := fun B C hB => by
    refine ⟨(h1h.fz B C hB).1, fun ⟨i, b, hi, hro, hb⟩ => ?_⟩
    by_cases hil : i ∈ lk
    · obtain ⟨x, h2, h3⟩ := e2 i hil
      rw [u2 i hil] at hi
      rw [hext i b hi] at hb
      rcases f.ext.new B C hB with h4 | h4 | h4
      · exact (hh.fz B C h4).2 ⟨i, b, hi, hro, hb⟩
      · obtain ⟨j, bj, h5, h6, h7⟩ := h4
        by_cases hj : j ∈ lk
        · obtain ⟨y, _, h9⟩ := e2 j hj
          rw [h9] at h5; cases h5
          rw [Blk.lock_ro] at h6; cases h6
        · rw [e3 j hj] at h5
          exact hh.sep j i bj b h5 hi (fun e => hj (e ▸ hil)) h6 (h7.trans hb.symm)
      · have := (hh.blk i b hi).lt
        omega
    · rw [u3 i hil] at hi
      exact (h1h.fz B C hB).2 ⟨i, b, hi, hro, hb⟩
  refine ⟨⟨⟨fun i b hb => ?_, fun i b hb => ?_, fun i j bi bj hi hj hne hro => ?_, fun g i hg => by rw [u1]; exact h1h.glob g i hg⟩, hfz⟩,
    ⟨f.os, f.tape, f.output, f.size, by rw [u1, ← e1]; exact f.next, ⟨fun i hi => f.ext.loc i (by rw [e1]; exact hi), f.ext.fr, fun B C hB => (f.ext.new B C hB).imp id fun h => h.imp (hwr B) id⟩, fun B hB hn => f.keep B hB fun hw => hn (hwr B hw), fun B hB => ?_, fun i b hb hro => ?_, fun i b hb hro => ?_⟩⟩
  · rw [u1]
    by_cases hi : i ∈ lk
    · rw [u2 i hi] at hb
      have := hh.lt i b hb
      have h2 := f.next
      rw [e1] at h2
      omega
    · rw [u3 i hi] at hb
      exact h1h.lt i b hb
  · rw [u1]
    by_cases hi : i ∈ lk
    · rw [u2 i hi] at hb
      rw [hext i b hb]
      exact (hh.blk i b hb).same (X := fun B => Wr μ hl B ∨ w.heap.size ≤ B) ⟨fun j hj => f.ext.loc j (by rw [e1]; exact hj), f.ext.fr, f.ext.new⟩ (by rw [← e1]; exact f.next) (hstay i hi b hb)
    · rw [u3 i hi] at hb
      exact h1h.blk i b hb
  · by_cases hi' : i ∈ lk
    · rw [u2 i hi'] at hi
      by_cases hj' : j ∈ lk
      · rw [u2 j hj'] at hj
        rw [hext i bi hi, hext j bj hj]
        exact hh.sep i j bi bj hi hj hne hro
      · rw [u3 j hj'] at hj
        obtain ⟨x, h2, h3⟩ := hlk i hi'
        cases hjr : bj.ro with
        | false => exact fun heq => h1h.sep j i bj _ hj h3 (fun h => hne h.symm) hjr heq.symm
        | true =>
          have h4 := f.ron j bj hj hjr
          rw [e3 j hj'] at h4
          rw [hext i bi hi, hext j bj h4]
          exact hh.sep i j bi bj hi h4 hne hro
    · rw [u3 i hi'] at hi
      by_cases hj' : j ∈ lk
      · rw [u2 j hj'] at hj
        obtain ⟨x, h2, h3⟩ := hlk j hj'
        exact h1h.sep i j bi _ hi h3 hne hro
      · rw [u3 j hj'] at hj
        exact h1h.sep i j bi bj hi hj hne hro
  · obtain ⟨i, b, h2, h3, h4⟩ := hB
    by_cases hi : i ∈ lk
    · rw [u2 i hi] at h2
      rw [hext i b h2] at h4
      exact .inl ⟨i, b, h2, h3, h4⟩
    · rw [u3 i hi] at h2
      exact (f.own B ⟨i, b, h2, h3, h4⟩).imp (hwr B) id
  · by_cases hi : i ∈ lk
    · rw [u2 i hi]; exact hb
    · rw [u3 i hi]
      exact f.ro i b (by rw [e3 i hi]; exact hb) hro
  · by_cases hi : i ∈ lk
    · rw [u2 i hi] at hb; exact hb
    · rw [u3 i hi] at hb
      have := f.ron i b hb hro
      rw [e3 i hi] at this
      exact this

/-- One step of a region's run. -/
structure Ent where
  i : Nat
  o : Oper
  p : RSt
  q : RSt

def befN (bef : List Nat) (i : Nat) : Nat := (bef[i]?).getD 0

inductive Kind (P : Program) (gl : Nat → Option Nat) (call : CallA) (ops : Array Oper) (bef : List Nat) (e : Ent) : Prop where
  | skip (hw : wantA ops e.o e.p.σ.T = some false) (hs : putA e.p.σ e.o.dst undef = some e.q.σ) (hl : e.q.last = e.p.last) (hr : e.q.rds = e.p.rds)
  | pur (hw : wantA ops e.o e.p.σ.T = some true) (hc : clsA P e.o.op = 0) (hs : stepA P gl call e.o e.p.σ = some e.q.σ) (hl : e.q.last = e.p.last) (hr : e.q.rds = e.p.rds)
  | rd (hw : wantA ops e.o e.p.σ.T = some true) (hc : clsA P e.o.op = 1) (hok : lastOk (befN bef e.i) e.p.last = true) (hs : stepA P gl call e.o e.p.σ = some e.q.σ) (hl : e.q.last = e.p.last)
      (hr : e.q.rds = match rdBlk (evA gl e.p.σ.T) e.o.op with | some k => (e.i, k) :: e.p.rds | none => e.p.rds)
  | eff (hw : wantA ops e.o e.p.σ.T = some true) (hc : 2 ≤ clsA P e.o.op) (hok : lastOk (befN bef e.i) e.p.last = true) (hl σ1 : _) (h1 : lockAll ((e.p.rds.filter fun x => !(befN bef e.i).testBit x.1).map (·.2)) e.p.σ.h = some hl)
      (hs : stepA P gl call e.o { e.p.σ with h := hl } = some σ1) (hq : e.q.σ = { σ1 with h := unlockAll e.p.σ.h ((e.p.rds.filter fun x => !(befN bef e.i).testBit x.1).map (·.2)) σ1.h })
      (hll : e.q.last = some e.i) (hr : e.q.rds = e.p.rds)

/-- What is known of a step. -/
structure Fact (P : Program) (gl : Nat → Option Nat) (call : CallA) (ops : Array Oper) (bef : List Nat) (e : Ent) : Prop where
  op : ops.toList[e.i]? = some e.o
  sub : ∀ k, (befN bef e.i).testBit k = true → e.p.done.testBit k = true
  new : e.p.done.testBit e.i = false
  done : e.q.done = e.p.done ||| 2 ^ e.i
  kind : Kind P gl call ops bef e

def Chain : RSt → List Ent → RSt → Prop
  | r, [], r' => r' = r
  | r, e :: E, r' => e.p = r ∧ Chain e.q E r'

theorem stepR_fact {call : CallA} {ops : Array Oper} {bef : List Nat} {i : Nat} {r r' : RSt} (h : stepR P gl call ops bef i r = some r') : ∃ o, Fact P gl call ops bef ⟨i, o, r, r'⟩ := by
  unfold stepR at h
  split at h
  · cases h
  · rename_i o ho
    refine ⟨o, ?_⟩
    dsimp only at h
    cases hc : (!Nat.beq (Nat.land ((bef[i]?).getD 0) r.done) ((bef[i]?).getD 0) || r.done.testBit i) with
    | true => rw [hc] at h; cases h
    | false =>
      rw [hc] at h
      simp only [cond_false] at h
      simp only [Bool.or_eq_false_iff, Bool.not_eq_false'] at hc
      have hsub : ∀ k, (befN bef i).testBit k = true → r.done.testBit k = true := fun k hk => by
        have e1 := Nat.eq_of_beq_eq_true hc.1
        have e2 : (befN bef i &&& r.done) = befN bef i := e1
        rw [← e2, Nat.testBit_and, Bool.and_eq_true] at hk
        exact hk.2
      split at h
      · cases h
      · rename_i hw
        split at h
        · rename_i σ' hs
          cases h
          exact ⟨ho, hsub, hc.2, rfl, .skip hw hs rfl rfl⟩
        · cases h
      · rename_i hw
        split at h
        · rename_i hcl
          split at h
          · rename_i σ' hs
            cases h
            exact ⟨ho, hsub, hc.2, rfl, .pur hw hcl hs rfl rfl⟩
          · cases h
        · rename_i hcl
          cases hl : lastOk ((bef[i]?).getD 0) r.last with
          | false => rw [hl] at h; cases h
          | true =>
            rw [hl] at h
            simp only [cond_true] at h
            split at h
            · rename_i σ' hs
              cases h
              exact ⟨ho, hsub, hc.2, rfl, .rd hw hcl hl hs rfl rfl⟩
            · cases h
        · rename_i h0 h1
          cases hl : lastOk ((bef[i]?).getD 0) r.last with
          | false => rw [hl] at h; cases h
          | true =>
            rw [hl] at h
            simp only [cond_true] at h
            split at h
            · rename_i hlk hlock
              split at h
              · rename_i σ1 hs
                cases h
                refine ⟨ho, hsub, hc.2, rfl, .eff hw ?_ hl hlk σ1 hlock hs rfl rfl rfl⟩
                have a0 : clsA P o.op ≠ 0 := h0
                have a1 : clsA P o.op ≠ 1 := h1
                show 2 ≤ clsA P o.op
                omega
              · cases h
            · cases h

theorem runR_chain {call : CallA} {ops : Array Oper} {bef : List Nat} : ∀ (l : List Nat) (r r' : RSt), runR P gl call ops bef l r = some r' →
    ∃ E : List Ent, E.map (·.i) = l ∧ (∀ e ∈ E, Fact P gl call ops bef e) ∧ Chain r E r' := by
  intro l
  induction l with
  | nil => intro r r' h; cases h; exact ⟨[], rfl, fun e he => by simp at he, rfl⟩
  | cons i l ih =>
    intro r r' h
    simp only [runR] at h
    split at h
    · rename_i r1 h1
      obtain ⟨o, hf⟩ := stepR_fact h1
      obtain ⟨E, e1, e2, e3⟩ := ih r1 r' h
      refine ⟨⟨i, o, r, r1⟩ :: E, by simp [e1], fun e he => ?_, rfl, e3⟩
      rcases List.mem_cons.1 he with rfl | he
      · exact hf
      · exact e2 e he
    · cases h

theorem Chain.split : ∀ {E1 : List Ent} {r : RSt} {e : Ent} {E2 : List Ent} {r' : RSt}, Chain r (E1 ++ e :: E2) r' → Chain r E1 e.p ∧ Chain e.q E2 r' := by
  intro E1
  induction E1 with
  | nil => intro r e E2 r' h; exact ⟨h.1, h.2⟩
  | cons x E1 ih =>
    intro r e E2 r' h
    obtain ⟨h1, h2⟩ := ih h.2
    exact ⟨⟨h.1, h1⟩, h2⟩

variable {call : CallA} {ops : Array Oper} {bef : List Nat}

theorem testBit_done (a i k : Nat) : (a ||| 2 ^ i).testBit k = (a.testBit k || decide (i = k)) := by
  rw [Nat.testBit_or, Nat.testBit_two_pow]

/-- What has been done along a chain. -/
theorem Chain.done : ∀ {E : List Ent} {r r' : RSt}, Chain r E r' → (∀ e ∈ E, Fact P gl call ops bef e) → ∀ k, r'.done.testBit k = true ↔ (r.done.testBit k = true ∨ k ∈ E.map (·.i)) := by
  intro E
  induction E with
  | nil => intro r r' h _ k; have : r' = r := h; subst this; simp
  | cons e E ih =>
    intro r r' h hf k
    obtain ⟨h1, h2⟩ := h
    subst h1
    rw [ih h2 (fun x hx => hf x (List.mem_cons.2 (.inr hx))) k, (hf e (List.mem_cons.2 (.inl rfl))).done, testBit_done]
    simp only [Bool.or_eq_true, decide_eq_true_eq, List.map_cons, List.mem_cons]
    constructor
    · rintro ((h | h) | h)
      · exact .inl h
      · exact .inr (.inl h.symm)
      · exact .inr (.inr h)
    · rintro (h | h | h)
      · exact .inl (.inl h)
      · exact .inl (.inr h.symm)
      · exact .inr h

end Go.Proofs.YtachednafdmmaaaDoor.AI
