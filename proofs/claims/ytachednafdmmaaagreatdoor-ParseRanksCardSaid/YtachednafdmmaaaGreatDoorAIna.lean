/- The abstract interpreter: regions whose order is drawn, where rows may be made at any time: chains. -/
import Derived.Test.YtachednafdmmaaaGreatDoorAIv
namespace Go.Proofs.YtachednafdmmaaaGreatDoor.AI
open Go
set_option linter.unusedVariables false
set_option linter.unusedSimpArgs false

variable {P : Program} {gl : Nat → Option Nat}

/-- An operation that makes a row out of values, and asks nothing else of the heap. -/
def isNew (o : Oper) : Bool := (match o.op with
  | .alloc _ => true
  | .buildSlice .. => true
  | _ => false) && o.guard.isNone && o.dst.isSome

/-- The row that is made. -/
def nRow (P : Program) (ev : Operand → Option Value) : Op → Option (Nat × List Value)
  | .alloc t => match zeroA P t with
    | some z => some (1, z.cells.toList)
    | none => none
  | .buildSlice t len ps => match evP ev ps.toList with
    | some l => match P.underlying t with
      | some (.slice e) => match szT P e with
        | some n => bif Nat.ble (len * n) 16777216 then
          (match zeroA P e with
          | some z => bif Nat.beq z.cells.toList.length n then
              (match fillA (fun i => some (i * n, n)) (repA len z.cells.toList) l with
              | some cs => some (n, cs)
              | none => none) else none
          | none => none) else none
        | none => none
      | _ => none
    | none => none
  | _ => none
def nVal : Op → Nat → Value
  | .buildSlice _ len _, id => .slice (some ⟨id, 0, none⟩) len 0
  | _, id => .pointer (some ⟨id, 0, none⟩)
def nPhy : Op → Nat → Value
  | .buildSlice _ len _, id => .slice (some ⟨id, 0, none⟩) len len
  | _, id => .pointer (some ⟨id, 0, none⟩)

theorem isNew_some {o : Oper} (h : isNew o = true) : o.guard = none ∧ (∃ d, o.dst = some d) ∧ clsA P o.op = 2 ∧ ((∃ t, o.op = .alloc t) ∨ ∃ t len ps, o.op = .buildSlice t len ps) := by
  unfold isNew at h
  simp only [Bool.and_eq_true] at h
  obtain ⟨⟨h1, h2⟩, h3⟩ := h
  refine ⟨by simpa using h2, Option.isSome_iff_exists.1 h3, ?_, ?_⟩
  · split at h1
    · rename_i t ho; rw [ho]; rfl
    · rename_i t len ps ho; rw [ho]; rfl
    · cases h1
  · split at h1
    · rename_i t ho; exact .inl ⟨t, ho⟩
    · rename_i t len ps ho; exact .inr ⟨t, len, ps, ho⟩
    · cases h1

theorem stepV_new {call : CallA} {ev : Operand → Option Value} {h : AH} {o : Oper} (hn : isNew o = true) : stepV P call ev h o.op = match nRow P ev o.op with
    | some (z, cs) => some (nVal o.op h.next, h.add (.row false z cs), [])
    | none => none := by
  obtain ⟨_, _, _, ⟨t, ho⟩ | ⟨t, len, ps, ho⟩⟩ := isNew_some (P := P) hn
  · rw [ho]
    show (match opA P ev h (.alloc t) with
      | some (v, h') => some (v, h', [])
      | none => none) = _
    simp only [opA, nRow, nVal]
    cases zeroA P t <;> rfl
  · rw [ho]
    show (match opA P ev h (.buildSlice t len ps) with
      | some (v, h') => some (v, h', [])
      | none => none) = _
    simp only [opA, nRow, nVal]
    cases evP ev ps.toList with
    | none => rfl
    | some l =>
      dsimp only
      unfold buildSliceA
      cases P.underlying t with
      | none => rfl
      | some d =>
        cases d
        case slice e =>
          dsimp only
          cases szT P e with
          | none => rfl
          | some n =>
            dsimp only
            cases Nat.ble (len * n) 16777216 with
            | false => rfl
            | true =>
              simp only [cond_true]
              cases zeroA P e with
              | none => rfl
              | some z =>
                dsimp only
                cases Nat.beq z.cells.toList.length n with
                | false => rfl
                | true =>
                  simp only [cond_true]
                  cases fillA (fun i => some (i * n, n)) (repA len z.cells.toList) l <;> rfl
        all_goals rfl

/-- What the making of a row does. -/
theorem nRow_run {μ : Mu} {h : AH} {w : World} {T : Tr Value} {ρ : Operand → Value} {o : Oper} (hn : isNew o = true) (hT : ∀ x v, evA gl T x = some v → VRel μ h.next v (ρ x)) {z : Nat} {cs : List Value} (hr : nRow P (evA gl T) o.op = some (z, cs)) :
    ∃ C e, (execOp ρ o).run P w = .ok (.value (nPhy o.op w.heap.size)) (w.alloc (.cells C e)) ∧ LRel μ h.next cs C.toList := by
  obtain ⟨_, _, _, ⟨t, ho⟩ | ⟨t, len, ps, ho⟩⟩ := isNew_some (P := P) hn
  · rw [ho] at hr ⊢
    simp only [nRow] at hr
    split at hr
    · rename_i zv hz
      cases hr
      obtain ⟨h1, h2⟩ := zeroA_run (P := P) (μ := μ) (n := h.next) (w := w) hz
      have e : (Instr.alloc t true (.tuple #[])).run P w = .ok (.pointer (some ⟨w.heap.size, 0, none⟩)) (w.alloc (.cells zv.cells t)) := by
        unfold Instr.alloc
        simp only [Sem.run_bind, h1, Result.andThen_ok, newVar, newRow, run_newObj]; rfl
      refine ⟨zv.cells, t, ?_, h2.cells⟩
      unfold execOp
      rw [ho]
      show ((do pure (Next.value (← Instr.alloc t true (.tuple #[]))) : Sem Next)).run P w = _
      simp only [Sem.run_bind, e, Result.andThen_ok, Sem.run_pure]
      rfl
    · cases hr
  · rw [ho] at hr ⊢
    simp only [nRow] at hr
    split at hr
    · rename_i l hl
      split at hr
      · rename_i e hu
        split at hr
        · rename_i sz hsz
          cases hs : Nat.ble (len * sz) 16777216 with
          | false => rw [hs] at hr; cases hr
          | true =>
            rw [hs] at hr
            simp only [cond_true] at hr
            have hsm := Nat.le_of_ble_eq_true hs
            split at hr
            · rename_i zv hz
              cases hq : Nat.beq zv.cells.toList.length sz with
              | false => rw [hq] at hr; cases hr
              | true =>
                rw [hq] at hr
                simp only [cond_true] at hr
                have hzs := Nat.eq_of_beq_eq_true hq
                split at hr
                · rename_i cs' hf
                  cases hr
                  have hp := evP_rel (ρ := ρ) hT _ _ hl
                  obtain ⟨i', hi', hzi⟩ := zeroA_info hz
                  unfold szT at hsz
                  rw [hi'] at hsz
                  cases hsz
                  have hz1 := (zeroA_run (P := P) (μ := μ) (n := h.next) (w := w) hz).2
                  have hmade : (madeCells zv.cells (len * i'.size)).toList = repA len zv.cells.toList := by
                    rw [← hzs, Array.length_toList]; exact made_eq _ _
                  have hrel : LRel μ h.next (repA len zv.cells.toList) (madeCells zv.cells (len * i'.size)).toList := by rw [hmade]; exact repA_rel hz1.cells _
                  obtain ⟨R, hR, hRr⟩ := fillA_run (place' := fun i => some (i * i'.size, i'.size)) (fun i x hx => hx) hp hf hrel
                  have hrun : (Instr.buildSlice t len (ps.map fun (i, x) => (i, ρ x))).run P w = .ok (.slice (some ⟨w.heap.size, 0, none⟩) len len) (w.alloc (.cells R e)) := by
                    have hfill : Instr.fill (fun i => some (i * i'.size, i'.size)) (madeCells zv.cells (len * i'.size)) (ps.map fun (i, x) => (i, ρ x)).toList = some R := by rw [Array.toList_map]; exact hR
                    have hsm' : ¬ (16777216 < len * i'.size) := by omega
                    by_cases h0 : len * i'.size = 0
                    · have hm0 : madeCells zv.cells (len * i'.size) = #[] := by
                        apply Array.eq_empty_of_size_eq_zero; rw [size_madeCells, h0]
                      have hr0 : (Array.range (len * i'.size)).map (fun x => (#[] : Array Value)[x % (#[] : Array Value).size]!) = #[] := by
                        apply Array.eq_empty_of_size_eq_zero; simp [h0]
                      rw [hm0] at hfill
                      unfold Instr.buildSlice
                      simp only [Sem.run_bind, run_underlying hu, Result.andThen_ok, sizeOf, typeInfo, run_program, hi', Sem.run_pure]
                      rw [if_neg (by omega)]
                      simp only [Sem.run_bind, Sem.run_pure, Result.andThen_ok, if_pos h0, hr0]
                      simp only [hfill, newRow, Sem.run_bind, run_newObj, Result.andThen_ok, Sem.run_pure]
                      rfl
                    · unfold Instr.buildSlice
                      simp only [Sem.run_bind, run_underlying hu, Result.andThen_ok, sizeOf, typeInfo, run_program, hi', Sem.run_pure]
                      rw [if_neg (by omega)]
                      simp only [Sem.run_bind, Sem.run_pure, Result.andThen_ok, if_neg h0, zeroValue, typeInfo, run_program, hi', hzi]
                      have hfill' := hfill
                      unfold madeCells at hfill'
                      simp only [hfill', newRow, Sem.run_bind, run_newObj, Result.andThen_ok, Sem.run_pure]
                      rfl
                  refine ⟨R, e, ?_, hRr⟩
                  unfold execOp
                  rw [ho]
                  show ((do pure (Next.value (← Instr.buildSlice t len (ps.map fun (i, x) => (i, ρ x)))) : Sem Next)).run P w = _
                  simp only [Sem.run_bind, hrun, Result.andThen_ok, Sem.run_pure]
                  rfl
                · cases hr
            · cases hr
        · cases hr
      · cases hr
    · cases hr

namespace N

inductive Kind (P : Program) (gl : Nat → Option Nat) (call : CallA) (ops : Array Oper) (bef : List Nat) (e : Ent) : Prop where
  | skip (hw : wantA ops e.o e.p.σ.T = some false) (hs : putA e.p.σ e.o.dst undef = some e.q.σ) (hl : e.q.last = e.p.last) (hr : e.q.rds = e.p.rds)
  | pur (hw : wantA ops e.o e.p.σ.T = some true) (hc : clsA P e.o.op = 0) (hs : stepA P gl call e.o e.p.σ = some e.q.σ) (hl : e.q.last = e.p.last) (hr : e.q.rds = e.p.rds)
  | rd (hw : wantA ops e.o e.p.σ.T = some true) (hc : clsA P e.o.op = 1) (hok : lastOk (befN bef e.i) e.p.last = true) (hs : stepA P gl call e.o e.p.σ = some e.q.σ) (hl : e.q.last = e.p.last)
      (hr : e.q.rds = match rdBlk (evA gl e.p.σ.T) e.o.op with | some k => (e.i, k) :: e.p.rds | none => e.p.rds)
  | eff (hnn : isNew e.o = false) (hw : wantA ops e.o e.p.σ.T = some true) (hc : 2 ≤ clsA P e.o.op) (hok : lastOk (befN bef e.i) e.p.last = true) (hl σ1 : _) (h1 : lockAll ((e.p.rds.filter fun x => !(befN bef e.i).testBit x.1).map (·.2)) e.p.σ.h = some hl)
      (hs : stepA P gl call e.o { e.p.σ with h := hl } = some σ1) (hq : e.q.σ = { σ1 with h := unlockAll e.p.σ.h ((e.p.rds.filter fun x => !(befN bef e.i).testBit x.1).map (·.2)) σ1.h })
      (hll : e.q.last = some e.i) (hr : e.q.rds = e.p.rds)
  | new (hn : isNew e.o = true) (hs : stepA P gl call e.o e.p.σ = some e.q.σ) (hf : ∀ x ∈ e.p.rds, x.2 ≠ e.p.σ.h.next) (hll : e.q.last = some e.i) (hr : e.q.rds = e.p.rds)

/-- What is known of a step. -/
structure Fact (P : Program) (gl : Nat → Option Nat) (call : CallA) (ops : Array Oper) (bef : List Nat) (e : Ent) : Prop where
  op : ops.toList[e.i]? = some e.o
  sub : ∀ k, (befN bef e.i).testBit k = true → e.p.done.testBit k = true
  new : e.p.done.testBit e.i = false
  done : e.q.done = e.p.done ||| 2 ^ e.i
  kind : Kind P gl call ops bef e

def Chain : RSt → List Ent → RSt → Prop
  | r, [], r' => r' = r
  | r, e :: E, r' => e.p = r ∧ Chain e.q E r'

theorem Chain.split : ∀ {E1 : List Ent} {r : RSt} {e : Ent} {E2 : List Ent} {r' : RSt}, Chain r (E1 ++ e :: E2) r' → Chain r E1 e.p ∧ Chain e.q E2 r' := by
  intro E1
  induction E1 with
  | nil => intro r e E2 r' h; exact ⟨h.1, h.2⟩
  | cons x E1 ih =>
    intro r e E2 r' h
    obtain ⟨h1, h2⟩ := ih h.2
    exact ⟨⟨h.1, h1⟩, h2⟩

variable {call : CallA} {ops : Array Oper} {bef : List Nat}

/-- What has been done along a chain. -/
theorem Chain.done : ∀ {E : List Ent} {r r' : RSt}, Chain r E r' → (∀ e ∈ E, Fact P gl call ops bef e) → ∀ k, r'.done.testBit k = true ↔ (r.done.testBit k = true ∨ k ∈ E.map (·.i)) := by
  intro E
  induction E with
  | nil => intro r r' h _ k; have : r' = r := h; subst this; simp
  | cons e E ih =>
    intro r r' h hf k
    obtain ⟨h1, h2⟩ := h
    subst h1
    rw [ih h2 (fun x hx => hf x (List.mem_cons.2 (.inr hx))) k, (hf e (List.mem_cons.2 (.inl rfl))).done, testBit_done]
    simp only [Bool.or_eq_true, decide_eq_true_eq, List.map_cons, List.mem_cons]
    constructor
    · rintro ((h | h) | h)
      · exact .inl h
      · exact .inr (.inl h.symm)
      · exact .inr (.inr h)
    · rintro (h | h | h)
      · exact .inl (.inl h)
      · exact .inl (.inr h.symm)
      · exact .inr h

theorem eff_new {e : Ent} (hn : isNew e.o = true) : wantA ops e.o e.p.σ.T = some true ∧ effE P ops e = true := by
  obtain ⟨h1, _, h3, _⟩ := isNew_some (P := P) hn
  have hw : wantA ops e.o e.p.σ.T = some true := by unfold wantA; rw [h1]
  exact ⟨hw, by unfold effE; rw [hw, h3]; rfl⟩

/-- What a step leaves of temporaries that are not its own, of the heap where it does not change it. -/
theorem Fact.keeps {e : Ent} (f : Fact P gl call ops bef e) : e.q.σ.n = e.p.σ.n ∧ (∀ t, e.o.dst ≠ some t → e.q.σ.T.get t = e.p.σ.T.get t) ∧ (effE P ops e = false → e.q.σ.h = e.p.σ.h ∧ e.q.σ.ds = e.p.σ.ds) := by
  cases f.kind with
  | skip hw hs hl hr =>
    obtain ⟨h1, h2, h3, h4⟩ := putA_get hs
    exact ⟨h1, fun t ht => by rw [h4, if_neg ht], fun _ => ⟨h2, h3⟩⟩
  | pur hw hc hs hl hr =>
    obtain ⟨v, h', d, hv, hp⟩ := stepA_open hs
    obtain ⟨h1, h2, h3, h4⟩ := putA_get hp
    obtain ⟨e1, e2, _⟩ := pur_ok hc hv
    subst e1 e2
    exact ⟨h1, fun t ht => by rw [h4, if_neg ht], fun _ => ⟨h2, h3⟩⟩
  | rd hw hc hok hs hl hr =>
    obtain ⟨v, h', d, hv, hp⟩ := stepA_open hs
    obtain ⟨h1, h2, h3, h4⟩ := putA_get hp
    obtain ⟨e1, e2, _⟩ := rd_ok hc hv
    subst e1 e2
    exact ⟨h1, fun t ht => by rw [h4, if_neg ht], fun _ => ⟨h2, h3⟩⟩
  | eff hnn hw hc hok hl σ1 hlk hs hq hll hr =>
    obtain ⟨v, h', d, hv, hp⟩ := stepA_open hs
    obtain ⟨h1, h2, h3, h4⟩ := putA_get hp
    rw [hq]
    refine ⟨h1, fun t ht => by show σ1.T.get t = _; rw [h4, if_neg ht], fun he => ?_⟩
    unfold effE at he
    rw [hw] at he
    have : Nat.ble 2 (clsA P e.o.op) = true := Nat.ble_eq_true_of_le hc
    rw [this] at he
    cases he
  | new hn hs hff hll hr =>
    obtain ⟨v, h', d, hv, hp⟩ := stepA_open hs
    obtain ⟨h1, h2, h3, h4⟩ := putA_get hp
    refine ⟨h1, fun t ht => by rw [h4, if_neg ht], fun he => ?_⟩
    rw [(eff_new (ops := ops) (P := P) hn).2] at he
    cases he

theorem Chain.val : ∀ {E : List Ent} {r r' : RSt}, Chain r E r' → (∀ e ∈ E, Fact P gl call ops bef e) → ∀ t, r'.σ.T.get t = valD (fun _ => true) t E (r.σ.T.get t) := by
  intro E
  induction E with
  | nil => intro r r' h _ t; have : r' = r := h; subst this; rfl
  | cons e E ih =>
    intro r r' h hf t
    obtain ⟨h1, h2⟩ := h
    subst h1
    rw [ih h2 (fun x hx => hf x (List.mem_cons.2 (.inr hx))) t]
    simp only [valD]
    congr 1
    by_cases hd : e.o.dst = some t
    · rw [if_pos ⟨trivial, hd⟩]
    · rw [if_neg (fun hh => hd hh.2)]
      exact (hf e (List.mem_cons.2 (.inl rfl))).keeps.2.1 t hd

theorem Chain.hds : ∀ {E : List Ent} {r r' : RSt}, Chain r E r' → (∀ e ∈ E, Fact P gl call ops bef e) → (r'.σ.h, r'.σ.ds) = hdsD P ops (fun _ => true) E (r.σ.h, r.σ.ds) := by
  intro E
  induction E with
  | nil => intro r r' h _; have : r' = r := h; subst this; rfl
  | cons e E ih =>
    intro r r' h hf
    obtain ⟨h1, h2⟩ := h
    subst h1
    rw [ih h2 (fun x hx => hf x (List.mem_cons.2 (.inr hx)))]
    simp only [hdsD]
    congr 1
    by_cases hd : effE P ops e = true
    · rw [if_pos ⟨trivial, hd⟩]
    · rw [if_neg (fun hh => hd hh.2)]
      have := (hf e (List.mem_cons.2 (.inl rfl))).keeps.2.2 (by simpa using hd)
      rw [this.1, this.2]

theorem Chain.n : ∀ {E : List Ent} {r r' : RSt}, Chain r E r' → (∀ e ∈ E, Fact P gl call ops bef e) → r'.σ.n = r.σ.n := by
  intro E
  induction E with
  | nil => intro r r' h _; have : r' = r := h; subst this; rfl
  | cons e E ih =>
    intro r r' h hf
    obtain ⟨h1, h2⟩ := h
    subst h1
    rw [ih h2 (fun x hx => hf x (List.mem_cons.2 (.inr hx)))]
    exact (hf e (List.mem_cons.2 (.inl rfl))).keeps.1

/-- Of a trace from the beginning: what comes before what. -/
theorem order_facts {E1 : List Ent} {e : Ent} {E2 : List Ent} {r r' : RSt} (h : Chain r (E1 ++ e :: E2) r') (h0 : r.done = 0) (hf : ∀ x ∈ E1 ++ e :: E2, Fact P gl call ops bef x) :
    (∀ x ∈ E1, x.i ≠ e.i) ∧ (∀ x ∈ E2, x.i ≠ e.i) ∧ (∀ k, (befN bef e.i).testBit k = true → k ∈ E1.map (·.i)) ∧ (∀ x ∈ E1, (befN bef x.i).testBit e.i = false) ∧ (∀ x ∈ E2, (befN bef e.i).testBit x.i = false) := by
  obtain ⟨c1, c2⟩ := h.split
  have f1 : ∀ x ∈ E1, Fact P gl call ops bef x := fun x hx => hf x (List.mem_append.2 (.inl hx))
  have fe := hf e (List.mem_append.2 (.inr (List.mem_cons.2 (.inl rfl))))
  have f2 : ∀ x ∈ E2, Fact P gl call ops bef x := fun x hx => hf x (List.mem_append.2 (.inr (List.mem_cons.2 (.inr hx))))
  have d1 : ∀ k, e.p.done.testBit k = true ↔ k ∈ E1.map (·.i) := fun k => by rw [c1.done f1 k, h0]; simp
  have dq : ∀ k, e.q.done.testBit k = true ↔ (k ∈ E1.map (·.i) ∨ k = e.i) := fun k => by
    rw [fe.done, testBit_done, Bool.or_eq_true, d1, decide_eq_true_eq]
    exact ⟨fun h => h.imp id Eq.symm, fun h => h.imp id Eq.symm⟩
  have hsplit2 : ∀ x ∈ E2, ∃ F1 F2, E2 = F1 ++ x :: F2 := fun x hx => List.append_of_mem hx
  have n2 : ∀ x ∈ E2, x.i ≠ e.i ∧ x.i ∉ E1.map (·.i) := fun x hx => by
    obtain ⟨F1, F2, rfl⟩ := hsplit2 x hx
    obtain ⟨c3, c4⟩ := c2.split
    have hx := (f2 x hx).new
    have hd := c3.done (fun y hy => f2 y (List.mem_append.2 (.inl hy))) x.i
    have : ¬ x.p.done.testBit x.i = true := by rw [hx]; simp
    rw [hd, dq] at this
    exact ⟨fun h => this (.inl (.inr h)), fun h => this (.inl (.inl h))⟩
  refine ⟨fun x hx he => ?_, fun x hx => (n2 x hx).1, fun k hk => (d1 k).1 (fe.sub k hk), fun x hx => ?_, fun x hx => ?_⟩
  · have hn := fe.new
    have : e.p.done.testBit e.i = true := (d1 e.i).2 (List.mem_map.2 ⟨x, hx, he⟩)
    rw [hn] at this
    cases this
  · cases hb : (befN bef x.i).testBit e.i with
    | false => rfl
    | true =>
      obtain ⟨F1, F2, rfl⟩ := List.append_of_mem hx
      obtain ⟨c3, c4⟩ := c1.split
      have h1 := (f1 x hx).sub _ hb
      rw [c3.done (fun y hy => f1 y (List.mem_append.2 (.inl hy))) e.i, h0] at h1
      have hn := fe.new
      have : e.p.done.testBit e.i = true := (d1 e.i).2 (by
        rcases h1 with h1 | h1
        · simp at h1
        · simp only [List.map_append, List.mem_append]; exact .inl h1)
      rw [hn] at this
      cases this
  · cases hb : (befN bef e.i).testBit x.i with
    | false => rfl
    | true => exact absurd ((d1 _).1 (fe.sub _ hb)) (n2 x hx).2

section
variable {E1 : List Ent} {e : Ent} {E2 : List Ent} {r r' : RSt} {D : Nat → Bool}

/-- What an operation looks at is the same, whatever has come up beside it. -/
theorem val_at (h : Chain r (E1 ++ e :: E2) r') (h0 : r.done = 0) (hf : ∀ x ∈ E1 ++ e :: E2, Fact P gl call ops bef x) (ha : apartOk ops bef = true) (hD : Closed bef D) (he : D e.i = false) (hb : ∀ k, (befN bef e.i).testBit k = true → D k = true)
    {t : Tmp} (ht : t ∈ e.o.looksAt ops ∨ e.o.dst = some t) : valD D t (E1 ++ e :: E2) (r.σ.T.get t) = e.p.σ.T.get t := by
  obtain ⟨o1, o2, o3, o4, o5⟩ := order_facts h h0 hf
  obtain ⟨c1, c2⟩ := h.split
  have fe := hf e (List.mem_append.2 (.inr (List.mem_cons.2 (.inl rfl))))
  rw [valD_append]
  have g1 : valD D t E1 (r.σ.T.get t) = e.p.σ.T.get t := by
    rw [c1.val (fun x hx => hf x (List.mem_append.2 (.inl hx))) t]
    refine valD_congr fun x hx hd => ?_
    rcases share ha fe.op (hf x (List.mem_append.2 (.inl hx))).op (o1 x hx) hd ht with ⟨_, hs⟩ | ⟨_, hs⟩
    · rw [hb _ hs]
    · rw [o4 x hx] at hs; cases hs
  rw [g1]
  simp only [valD]
  rw [if_neg (fun hh => by rw [he] at hh; cases hh.1)]
  refine valD_none fun x hx hd => ?_
  cases hx2 : D x.i with
  | false => rfl
  | true =>
    rcases share ha fe.op (hf x (List.mem_append.2 (.inr (List.mem_cons.2 (.inr hx))))).op (o2 x hx) hd ht with ⟨_, hs⟩ | ⟨_, hs⟩
    · rw [o5 x hx] at hs; cases hs
    · rw [hD _ _ hx2 hs] at he; cases he

/-- Behind the operation. -/
theorem val_after (h : Chain r (E1 ++ e :: E2) r') (h0 : r.done = 0) (hf : ∀ x ∈ E1 ++ e :: E2, Fact P gl call ops bef x) (ha : apartOk ops bef = true) (hD : Closed bef D) (he : D e.i = false) (t : Tmp) :
    valD (fun j => D j || j == e.i) t (E1 ++ e :: E2) (r.σ.T.get t) = if e.o.dst = some t then e.q.σ.T.get t else valD D t (E1 ++ e :: E2) (r.σ.T.get t) := by
  obtain ⟨o1, o2, o3, o4, o5⟩ := order_facts h h0 hf
  have fe := hf e (List.mem_append.2 (.inr (List.mem_cons.2 (.inl rfl))))
  have same : ∀ x ∈ E1 ++ E2, (D x.i || x.i == e.i) = D x.i := fun x hx => by
    have : x.i ≠ e.i := (List.mem_append.1 hx).elim (o1 x) (o2 x)
    have : (x.i == e.i) = false := by simpa using this
    rw [this, Bool.or_false]
  rw [valD_append, valD_append]
  rw [valD_congr (D1 := fun j => D j || j == e.i) (D2 := D) (fun x hx _ => same x (List.mem_append.2 (.inl hx)))]
  simp only [valD]
  have hei : (D e.i || e.i == e.i) = true := by simp
  by_cases hd : e.o.dst = some t
  · rw [if_pos ⟨hei, hd⟩, if_pos hd]
    refine valD_none fun x hx hdx => ?_
    rw [same x (List.mem_append.2 (.inr hx))]
    cases hx2 : D x.i with
    | false => rfl
    | true =>
      rcases share ha fe.op (hf x (List.mem_append.2 (.inr (List.mem_cons.2 (.inr hx))))).op (o2 x hx) hdx (.inr hd) with ⟨_, hs⟩ | ⟨_, hs⟩
      · rw [o5 x hx] at hs; cases hs
      · rw [hD _ _ hx2 hs] at he; cases he
  · rw [if_neg (fun hh => hd hh.2), if_neg hd, if_neg (fun hh => hd hh.2)]
    exact valD_congr fun x hx _ => same x (List.mem_append.2 (.inr hx))

/-- The operations that may change the heap come up one behind the other. -/
theorem eff_in : ∀ {E : List Ent} {r r' : RSt}, Chain r E r' → (∀ x ∈ E, Fact P gl call ops bef x) → Closed bef D → (∀ x ∈ E, isNew x.o = true → D x.i = true → ∀ l, x.p.last = some l → D l = true) → (∀ l, r'.last = some l → D l = true) → (∀ x ∈ E, effE P ops x = true → D x.i = true) ∧ (∀ l, r.last = some l → D l = true) := by
  intro E
  induction E with
  | nil => intro r r' h _ _ _ hl; have : r' = r := h; subst this; exact ⟨fun x hx => by simp at hx, hl⟩
  | cons e E ih =>
    intro r r' h hf hD hN hl
    obtain ⟨h1, h2⟩ := h
    subst h1
    obtain ⟨g1, g2⟩ := ih h2 (fun x hx => hf x (List.mem_cons.2 (.inr hx))) hD (fun x hx => hN x (List.mem_cons.2 (.inr hx))) hl
    have hok : ∀ {l : Option Nat}, lastOk (befN bef e.i) l = true → D e.i = true → ∀ k, l = some k → D k = true := fun hl hd k hk => by
      subst hk
      exact hD _ _ hd hl
    have noteff : e.q.last = e.p.last → effE P ops e = false → (∀ x ∈ e :: E, effE P ops x = true → D x.i = true) ∧ (∀ l, e.p.last = some l → D l = true) := fun hq hn =>
      ⟨fun x hx hxe => by
        rcases List.mem_cons.1 hx with rfl | hx
        · rw [hn] at hxe; cases hxe
        · exact g1 x hx hxe, fun l hl => g2 l (by rw [hq]; exact hl)⟩
    cases (hf e (List.mem_cons.2 (.inl rfl))).kind with
    | skip hw hs hl hr => exact noteff hl (by unfold effE; rw [hw])
    | pur hw hc hs hl hr => exact noteff hl (by unfold effE; rw [hw, hc]; rfl)
    | rd hw hc hok hs hl hr => exact noteff hl (by unfold effE; rw [hw, hc]; rfl)
    | eff hnn hw hc hok' hl σ1 hlk hs hq hll hr =>
      have hde := g2 _ hll
      exact ⟨fun x hx hxe => by
        rcases List.mem_cons.1 hx with rfl | hx
        · exact hde
        · exact g1 x hx hxe, hok hok' hde⟩
    | new hn hs hff hll hr =>
      have hde := g2 _ hll
      exact ⟨fun x hx hxe => by
        rcases List.mem_cons.1 hx with rfl | hx
        · exact hde
        · exact g1 x hx hxe, hN e (List.mem_cons.2 (.inl rfl)) hn hde⟩

theorem last_in {i : Nat} {l : Option Nat} (hok : lastOk (befN bef i) l = true) (hb : ∀ k, (befN bef i).testBit k = true → D k = true) : ∀ k, l = some k → D k = true := fun k hk => by
  subst hk
  exact hb k hok

theorem eff_later (h : Chain r (E1 ++ e :: E2) r') (hf : ∀ x ∈ E1 ++ e :: E2, Fact P gl call ops bef x) (hD : Closed bef D) (hN : ∀ x ∈ E1 ++ e :: E2, isNew x.o = true → D x.i = true → ∀ l, x.p.last = some l → D l = true) {F1 F2 : List Ent} {x : Ent} (hE : E2 = F1 ++ x :: F2) (hx : effE P ops x = true) (hdx : D x.i = true) :
    (effE P ops e = true → D e.i = true) ∧ (∀ y ∈ F1, effE P ops y = true → D y.i = true) := by
  obtain ⟨c1, c2⟩ := h.split
  subst hE
  obtain ⟨c3, c4⟩ := c2.split
  have fx := hf x (List.mem_append.2 (.inr (List.mem_cons.2 (.inr (List.mem_append.2 (.inr (List.mem_cons.2 (.inl rfl))))))))
  have hc : Chain e.p (e :: F1) x.p := ⟨rfl, c3⟩
  have hfc : ∀ y ∈ e :: F1, Fact P gl call ops bef y := fun y hy => hf y (List.mem_append.2 (.inr (by
    rcases List.mem_cons.1 hy with rfl | hy
    · exact List.mem_cons.2 (.inl rfl)
    · exact List.mem_cons.2 (.inr (List.mem_append.2 (.inl hy))))))
  have hl : ∀ l, x.p.last = some l → D l = true := by
    cases fx.kind with
    | skip hw hs hl hr => unfold effE at hx; rw [hw] at hx; cases hx
    | pur hw hc hs hl hr => unfold effE at hx; rw [hw, hc] at hx; cases hx
    | rd hw hc hok hs hl hr => unfold effE at hx; rw [hw, hc] at hx; cases hx
    | eff hnn hw hc hok hl σ1 hlk hs hq hll hr => exact last_in hok fun k hk => hD _ _ hdx hk
    | new hn hs hff hll hr => exact hN x (List.mem_append.2 (.inr (List.mem_cons.2 (.inr (List.mem_append.2 (.inr (List.mem_cons.2 (.inl rfl)))))))) hn hdx
  obtain ⟨g1, _⟩ := eff_in hc hfc hD (fun y hy => hN y (List.mem_append.2 (.inr (by
    rcases List.mem_cons.1 hy with rfl | hy
    · exact List.mem_cons.2 (.inl rfl)
    · exact List.mem_cons.2 (.inr (List.mem_append.2 (.inl hy))))))) hl
  exact ⟨fun he => g1 e (List.mem_cons.2 (.inl rfl)) he, fun y hy hye => g1 y (List.mem_cons.2 (.inr hy)) hye⟩

/-- An operation that may change the heap finds it as in the trace. -/
theorem hds_at (h : Chain r (E1 ++ e :: E2) r') (hf : ∀ x ∈ E1 ++ e :: E2, Fact P gl call ops bef x) (hD : Closed bef D) (hN : ∀ x ∈ E1 ++ e :: E2, isNew x.o = true → D x.i = true → ∀ l, x.p.last = some l → D l = true) (he : D e.i = false) (hl : ∀ l, e.p.last = some l → D l = true) (hee : effE P ops e = true) :
    hdsD P ops D (E1 ++ e :: E2) (r.σ.h, r.σ.ds) = (e.p.σ.h, e.p.σ.ds) ∧ hdsD P ops (fun j => D j || j == e.i) (E1 ++ e :: E2) (r.σ.h, r.σ.ds) = (e.q.σ.h, e.q.σ.ds) := by
  obtain ⟨c1, c2⟩ := h.split
  have f1 : ∀ x ∈ E1, Fact P gl call ops bef x := fun x hx => hf x (List.mem_append.2 (.inl hx))
  obtain ⟨g1, _⟩ := eff_in c1 f1 hD (fun x hx => hN x (List.mem_append.2 (.inl hx))) hl
  have later : ∀ x ∈ E2, effE P ops x = true → D x.i = false := fun x hx hxe => by
    obtain ⟨F1, F2, hE⟩ := List.append_of_mem hx
    cases hdx : D x.i with
    | false => rfl
    | true => rw [(eff_later h hf hD hN hE hxe hdx).1 hee] at he; cases he
  have a1 : hdsD P ops D E1 (r.σ.h, r.σ.ds) = (e.p.σ.h, e.p.σ.ds) := by
    rw [c1.hds f1]
    exact hdsD_congr fun x hx hxe => g1 x hx hxe
  have a2 : hdsD P ops (fun j => D j || j == e.i) E1 (r.σ.h, r.σ.ds) = (e.p.σ.h, e.p.σ.ds) := by
    rw [c1.hds f1]
    exact hdsD_congr fun x hx hxe => by rw [g1 x hx hxe]; rfl
  refine ⟨?_, ?_⟩
  · rw [hdsD_append, a1]
    simp only [hdsD]
    rw [if_neg (fun hh => by rw [he] at hh; cases hh.1)]
    exact hdsD_none later
  · rw [hdsD_append, a2]
    simp only [hdsD]
    rw [if_pos ⟨by simp, hee⟩]
    refine hdsD_none fun x hx hxe => ?_
    rw [later x hx hxe]
    have : x.i ≠ e.i := fun heq => ?_
    · simpa using this
    · have fx := hf x (List.mem_append.2 (.inr (List.mem_cons.2 (.inr hx))))
      obtain ⟨F1, F2, rfl⟩ := List.append_of_mem hx
      obtain ⟨c3, c4⟩ := c2.split
      have hn := fx.new
      have hd := (c3.done (fun y hy => hf y (List.mem_append.2 (.inr (List.mem_cons.2 (.inr (List.mem_append.2 (.inl hy))))))) x.i).2
      have fe := hf e (List.mem_append.2 (.inr (List.mem_cons.2 (.inl rfl))))
      rw [hd (.inl (by rw [fe.done, testBit_done, heq]; simp))] at hn
      cases hn

/-- What is read is as in the trace. -/
theorem hds_get {b : Nat} : ∀ {E : List Ent} {c c' : RSt} {ds : List (FuncId × List Value)}, Chain c E c' → (∀ x ∈ E, Fact P gl call ops bef x) → Closed bef D →
    (∀ x ∈ E, effE P ops x = true → D x.i = true → x.q.σ.h.get b = x.p.σ.h.get b) →
    (∀ F1 x F2, E = F1 ++ x :: F2 → effE P ops x = true → D x.i = true → ∀ y ∈ F1, effE P ops y = true → D y.i = true) →
    ∀ h, h = c.σ.h → (hdsD P ops D E (h, ds)).1.get b = c.σ.h.get b := by
  intro E
  induction E with
  | nil => intro c c' ds _ _ _ _ _ h hh; subst hh; rfl
  | cons e E ih =>
    intro c c' ds hc hf hD hk hp h hh
    obtain ⟨h1, h2⟩ := hc
    subst h1
    subst hh
    simp only [hdsD]
    have hf' : ∀ x ∈ E, Fact P gl call ops bef x := fun x hx => hf x (List.mem_cons.2 (.inr hx))
    have hk' : ∀ x ∈ E, effE P ops x = true → D x.i = true → x.q.σ.h.get b = x.p.σ.h.get b := fun x hx => hk x (List.mem_cons.2 (.inr hx))
    have hp' : ∀ F1 x F2, E = F1 ++ x :: F2 → effE P ops x = true → D x.i = true → ∀ y ∈ F1, effE P ops y = true → D y.i = true := fun F1 x F2 hE hx hd y hy =>
      hp (e :: F1) x F2 (by rw [hE]; rfl) hx hd y (List.mem_cons.2 (.inr hy))
    by_cases hee : effE P ops e = true
    · by_cases hde : D e.i = true
      · rw [if_pos ⟨hde, hee⟩, ih h2 hf' hD hk' hp' _ rfl]
        exact hk e (List.mem_cons.2 (.inl rfl)) hee hde
      · rw [if_neg (fun hh => hde hh.1), hdsD_none fun x hx hxe => ?_]
        cases hdx : D x.i with
        | false => rfl
        | true =>
          obtain ⟨F1, F2, hE⟩ := List.append_of_mem hx
          exact absurd (hp (e :: F1) x F2 (by rw [hE]; rfl) hxe hdx e (List.mem_cons.2 (.inl rfl)) hee) hde
    · rw [if_neg (fun hh => hee hh.2)]
      have hq := ((hf e (List.mem_cons.2 (.inl rfl))).keeps.2.2 (by simpa using hee)).1
      rw [ih h2 hf' hD hk' hp' _ hq.symm, hq]

theorem rds_grow : ∀ {E : List Ent} {c c' : RSt}, Chain c E c' → (∀ x ∈ E, Fact P gl call ops bef x) → ∀ y ∈ c.rds, y ∈ c'.rds := by
  intro E
  induction E with
  | nil => intro c c' h _ y hy; have : c' = c := h; subst this; exact hy
  | cons e E ih =>
    intro c c' h hf y hy
    obtain ⟨h1, h2⟩ := h
    subst h1
    refine ih h2 (fun x hx => hf x (List.mem_cons.2 (.inr hx))) y ?_
    cases (hf e (List.mem_cons.2 (.inl rfl))).kind with
    | skip hw hs hl hr => rw [hr]; exact hy
    | pur hw hc hs hl hr => rw [hr]; exact hy
    | rd hw hc hok hs hl hr =>
      rw [hr]
      split
      · exact List.mem_cons.2 (.inr hy)
      · exact hy
    | eff hnn hw hc hok hl σ1 hlk hs hq hll hr => rw [hr]; exact hy
    | new hn hs hff hll hr => rw [hr]; exact hy

theorem rd_at (h : Chain r (E1 ++ e :: E2) r') (hf : ∀ x ∈ E1 ++ e :: E2, Fact P gl call ops bef x) (hD : Closed bef D) (hN : ∀ x ∈ E1 ++ e :: E2, isNew x.o = true → D x.i = true → ∀ l, x.p.last = some l → D l = true) (he : D e.i = false) (hl : ∀ l, e.p.last = some l → D l = true) (hne : effE P ops e = false)
    {b : Nat} (hrd : (e.i, b) ∈ e.q.rds) : (hdsD P ops D (E1 ++ e :: E2) (r.σ.h, r.σ.ds)).1.get b = e.p.σ.h.get b := by
  obtain ⟨c1, c2⟩ := h.split
  have f1 : ∀ x ∈ E1, Fact P gl call ops bef x := fun x hx => hf x (List.mem_append.2 (.inl hx))
  have fe := hf e (List.mem_append.2 (.inr (List.mem_cons.2 (.inl rfl))))
  have f2 : ∀ x ∈ E2, Fact P gl call ops bef x := fun x hx => hf x (List.mem_append.2 (.inr (List.mem_cons.2 (.inr hx))))
  obtain ⟨g1, _⟩ := eff_in c1 f1 hD (fun x hx => hN x (List.mem_append.2 (.inl hx))) hl
  have a1 : hdsD P ops D E1 (r.σ.h, r.σ.ds) = (e.p.σ.h, e.p.σ.ds) := by
    rw [c1.hds f1]
    exact hdsD_congr fun x hx hxe => g1 x hx hxe
  obtain ⟨k1, k2⟩ := fe.keeps.2.2 hne
  rw [hdsD_append, a1]
  simp only [hdsD]
  rw [if_neg (fun hh => by rw [he] at hh; cases hh.1)]
  rw [hds_get c2 f2 hD (fun x hx hxe hdx => ?_) (fun F1 x F2 hE hxe hdx => (eff_later h hf hD hN hE hxe hdx).2) _ k1.symm, k1]
  obtain ⟨F1, F2, hE⟩ := List.append_of_mem hx
  have hmem : (e.i, b) ∈ x.p.rds := by
    subst hE
    obtain ⟨c3, _⟩ := c2.split
    exact rds_grow c3 (fun y hy => f2 y (List.mem_append.2 (.inl hy))) _ hrd
  have hnb : (befN bef x.i).testBit e.i = false := by
    cases hb : (befN bef x.i).testBit e.i with
    | false => rfl
    | true => rw [hD _ _ hdx hb] at he; cases he
  cases (f2 x hx).kind with
  | skip hw hs hl hr => unfold effE at hxe; rw [hw] at hxe; cases hxe
  | pur hw hc hs hl hr => unfold effE at hxe; rw [hw, hc] at hxe; cases hxe
  | rd hw hc hok hs hl hr => unfold effE at hxe; rw [hw, hc] at hxe; cases hxe
  | eff hnn hw hc hok hl σ1 hlk hs hq hll hr =>
    rw [hq]
    refine (unlockAll_get x.p.σ.h _ σ1.h).2.1 b (List.mem_map.2 ⟨(e.i, b), List.mem_filter.2 ⟨hmem, ?_⟩, rfl⟩)
    rw [hnb]; rfl
  | new hn hs hff hll hr =>
    obtain ⟨v, h', d, hv, hp⟩ := stepA_open hs
    obtain ⟨_, g2, _, _⟩ := putA_get hp
    rw [stepV_new hn] at hv
    split at hv
    · cases hv
      rw [g2]
      show (AH.add _ _).get b = _
      rw [AH.get_add, if_neg (hff _ hmem)]
    · cases hv
end

end N
end Go.Proofs.YtachednafdmmaaaGreatDoor.AI
