/- The abstract interpreter: regions whose order is drawn, where rows may be made at any time: chains. -/
import Derived.Test.YtachednafdmmaaaDoorAIv
namespace Go.Proofs.YtachednafdmmaaaDoor.AI
open Go
set_option linter.unusedVariables false
set_option linter.unusedSimpArgs false

variable {P : Program} {gl : Nat → Option Nat}

/-- An operation that makes a row out of values, and asks nothing else of the heap. -/
def isNew (o : Oper) : Bool := (match o.op with
  | .alloc _ => true
  | .buildSlice .. => true
  | _ => false) && o.guard.isNone && o.dst.isSome

/-- The row that is made. -/
def nRow (P : Program) (ev : Operand → Option Value) : Op → Option (Nat × List Value)
  | .alloc t => match zeroA P t with
    | some z => some (1, z.cells.toList)
    | none => none
  | .buildSlice t len ps => match evP ev ps.toList with
    | some l => match P.underlying t with
      | some (.slice e) => match szT P e with
        | some n => bif Nat.ble (len * n) 16777216 then
          (match zeroA P e with
          | some z => bif Nat.beq z.cells.toList.length n then
              (match fillA (fun i => some (i * n, n)) (repA len z.cells.toList) l with
              | some cs => some (n, cs)
              | none => none) else none
          | none => none) else none
        | none => none
      | _ => none
    | none => none
  | _ => none
def nVal : Op → Nat → Value
  | .buildSlice _ len _, id => .slice (some ⟨id, 0, none⟩) len 0
  | _, id => .pointer (some ⟨id, 0, none⟩)
def nPhy : Op → Nat → Value
  | .buildSlice _ len _, id => .slice (some ⟨id, 0, none⟩) len len
  | _, id => .pointer (some ⟨id, 0, none⟩)

theorem isNew_some {o : Oper} (h : isNew o = true) : o.guard = none ∧ (∃ d, o.dst = some d) ∧ clsA P o.op = 2 ∧ ((∃ t, o.op = .alloc t) ∨ ∃ t len ps, o.op = .buildSlice t len ps) := by
  unfold isNew at h
  simp only [Bool.and_eq_true] at h
  obtain ⟨⟨h1, h2⟩, h3⟩ := h
  refine ⟨by simpa using h2, Option.isSome_iff_exists.1 h3, ?_, ?_⟩
  · split at h1
    · rename_i t ho; rw [ho]; rfl
    · rename_i t len ps ho; rw [ho]; rfl
    · cases h1
  · split at h1
    · rename_i t ho; exact .inl ⟨t, ho⟩
    · rename_i t len ps ho; exact .inr ⟨t, len, ps, ho⟩
    · cases h1

theorem stepV_new {call : CallA} {ev : Operand → Option Value} {h : AH} {o : Oper} (hn : isNew o = true) : stepV P call ev h o.op = match nRow P ev o.op with
    | some (z, cs) => some (nVal o.op h.next, h.add (.row false z cs), [])
    | none => none := by
  obtain ⟨_, _, _, ⟨t, ho⟩ | ⟨t, len, ps, ho⟩⟩ := isNew_some (P := P) hn
  · rw [ho]
    show (match opA P ev h (.alloc t) with
      | some (v, h') => some (v, h', [])
      | none => none) = _
    simp only [opA, nRow, nVal]
    cases zeroA P t <;> rfl
  · rw [ho]
    show (match opA P ev h (.buildSlice t len ps) with
      | some (v, h') => some (v, h', [])
      | none => none) = _
    simp only [opA, nRow, nVal]
    cases evP ev ps.toList with
    | none => rfl
    | some l =>
      dsimp only
      unfold buildSliceA
      cases P.underlying t with
      | none => rfl
      | some d =>
        cases d
        case slice e =>
          dsimp only
          cases szT P e with
          | none => rfl
          | some n =>
            dsimp only
            cases Nat.ble (len * n) 16777216 with
            | false => rfl
            | true =>
              simp only [cond_true]
              cases zeroA P e with
              | none => rfl
              | some z =>
                dsimp only
                cases Nat.beq z.cells.toList.length n with
                | false => rfl
                | true =>
                  simp only [cond_true]
                  cases fillA (fun i => some (i * n, n)) (repA len z.cells.toList) l <;> rfl
        all_goals rfl

/-- What the making of a row does. -/
theorem nRow_run {μ : Mu} {h : AH} {w : World} {T : Tr Value} {ρ : Operand → Value} {o : Oper} (hn : isNew o = true) (hT : ∀ x v, evA gl T x = some v → VRel μ h.next v (ρ x)) {z : Nat} {cs : List Value} (hr : nRow P (evA gl T) o.op = some (z, cs)) :
    ∃ C e, (execOp ρ o).run P w = .ok (.value (nPhy o.op w.heap.size)) (w.alloc (.cells C e)) ∧ LRel μ h.next cs C.toList := by
  obtain ⟨_, _, _, ⟨t, ho⟩ | ⟨t, len, ps, ho⟩⟩ := isNew_some (P := P) hn
  · rw [ho] at hr ⊢
    simp only [nRow] at hr
    split at hr
    · rename_i zv hz
      cases hr
      obtain ⟨h1, h2⟩ := zeroA_run (P := P) (μ := μ) (n := h.next) (w := w) hz
      have e : (Instr.alloc t true (.tuple #[])).run P w = .ok (.pointer (some ⟨w.heap.size, 0, none⟩)) (w.alloc (.cells zv.cells t)) := by
        unfold Instr.alloc
        simp only [Sem.run_bind, h1, Result.andThen_ok, newVar, newRow, run_newObj]; rfl
      refine ⟨zv.cells, t, ?_, h2.cells⟩
      unfold execOp
      rw [ho]
      show ((do pure (Next.value (← Instr.alloc t true (.tuple #[]))) : Sem Next)).run P w = _
      simp only [Sem.run_bind, e, Result.andThen_ok, Sem.run_pure]
      rfl
    · cases hr
  · rw [ho] at hr ⊢
    simp only [nRow] at hr
    split at hr
    · rename_i l hl
      split at hr
      · rename_i e hu
        split at hr
        · rename_i sz hsz
          cases hs : Nat.ble (len * sz) 16777216 with
          | false => rw [hs] at hr; cases hr
          | true =>
            rw [hs] at hr
            simp only [cond_true] at hr
            have hsm := Nat.le_of_ble_eq_true hs
            split at hr
            · rename_i zv hz
              cases hq : Nat.beq zv.cells.toList.length sz with
              | false => rw [hq] at hr; cases hr
              | true =>
                rw [hq] at hr
                simp only [cond_true] at hr
                have hzs := Nat.eq_of_beq_eq_true hq
                split at hr
                · rename_i cs' hf
                  cases hr
                  have hp := evP_rel (ρ := ρ) hT _ _ hl
                  obtain ⟨i', hi', hzi⟩ := zeroA_info hz
                  unfold szT at hsz
                  rw [hi'] at hsz
                  cases hsz
                  have hz1 := (zeroA_run (P := P) (μ := μ) (n := h.next) (w := w) hz).2
                  have hmade : (madeCells zv.cells (len * i'.size)).toList = repA len zv.cells.toList := by
                    rw [← hzs, Array.length_toList]; exact made_eq _ _
                  have hrel : LRel μ h.next (repA len zv.cells.toList) (madeCells zv.cells (len * i'.size)).toList := by rw [hmade]; exact repA_rel hz1.cells _
                  obtain ⟨R, hR, hRr⟩ := fillA_run (place' := fun i => some (i * i'.size, i'.size)) (fun i x hx => hx) hp hf hrel
                  have hrun : (Instr.buildSlice t len (ps.map fun (i, x) => (i, ρ x))).run P w = .ok (.slice (some ⟨w.heap.size, 0, none⟩) len len) (w.alloc (.cells R e)) := by
                    have hfill : Instr.fill (fun i => some (i * i'.size, i'.size)) (madeCells zv.cells (len * i'.size)) (ps.map fun (i, x) => (i, ρ x)).toList = some R := by rw [Array.toList_map]; exact hR
                    have hsm' : ¬ (16777216 < len * i'.size) := by omega
                    by_cases h0 : len * i'.size = 0
                    · have hm0 : madeCells zv.cells (len * i'.size) = #[] := by
                        apply Array.eq_empty_of_size_eq_zero; rw [size_madeCells, h0]
                      have hr0 : (Array.range (len * i'.size)).map (fun x => (#[] : Array Value)[x % (#[] : Array Value).size]!) = #[] := by
                        apply Array.eq_empty_of_size_eq_zero; simp [h0]
                      rw [hm0] at hfill
                      unfold Instr.buildSlice
                      simp only [Sem.run_bind, run_underlying hu, Result.andThen_ok, sizeOf, typeInfo, run_program, hi', Sem.run_pure]
                      rw [if_neg (by omega)]
                      simp only [Sem.run_bind, Sem.run_pure, Result.andThen_ok, if_pos h0, hr0]
                      simp only [hfill, newRow, Sem.run_bind, run_newObj, Result.andThen_ok, Sem.run_pure]
                      rfl
                    · unfold Instr.buildSlice
                      simp only [Sem.run_bind, run_underlying hu, Result.andThen_ok, sizeOf, typeInfo, run_program, hi', Sem.run_pure]
                      rw [if_neg (by omega)]
                      simp only [Sem.run_bind, Sem.run_pure, Result.andThen_ok, if_neg h0, zeroValue, typeInfo, run_program, hi', hzi]
                      have hfill' := hfill
                      unfold madeCells at hfill'
                      simp only [hfill', newRow, Sem.run_bind, run_newObj, Result.andThen_ok, Sem.run_pure]
                      rfl
                  refine ⟨R, e, ?_, hRr⟩
                  unfold execOp
                  rw [ho]
                  show ((do pure (Next.value (← Instr.buildSlice t len (ps.map fun (i, x) => (i, ρ x)))) : Sem Next)).run P w = _
                  simp only [Sem.run_bind, hrun, Result.andThen_ok, Sem.run_pure]
                  rfl
                · cases hr
            · cases hr
        · cases hr
      · cases hr
    · cases hr

namespace N

inductive Kind (P : Program) (gl : Nat → Option Nat) (call : CallA) (ops : Array Oper) (bef : List Nat) (e : Ent) : Prop where
  | skip (hw : wantA ops e.o e.p.σ.T = some false) (hs : putA e.p.σ e.o.dst undef = some e.q.σ) (hl : e.q.last = e.p.last) (hr : e.q.rds = e.p.rds)
  | pur (hw : wantA ops e.o e.p.σ.T = some true) (hc : clsA P e.o.op = 0) (hs : stepA P gl call e.o e.p.σ = some e.q.σ) (hl : e.q.last = e.p.last) (hr : e.q.rds = e.p.rds)
  | rd (hw : wantA ops e.o e.p.σ.T = some true) (hc : clsA P e.o.op = 1) (hok : lastOk (befN bef e.i) e.p.last = true) (hs : stepA P gl call e.o e.p.σ = some e.q.σ) (hl : e.q.last = e.p.last)
      (hr : e.q.rds = match rdBlk (evA gl e.p.σ.T) e.o.op with | some k => (e.i, k) :: e.p.rds | none => e.p.rds)
  | eff (hnn : isNew e.o = false) (hw : wantA ops e.o e.p.σ.T = some true) (hc : 2 ≤ clsA P e.o.op) (hok : lastOk (befN bef e.i) e.p.last = true) (hl σ1 : _) (h1 : lockAll ((e.p.rds.filter fun x => !(befN bef e.i).testBit x.1).map (·.2)) e.p.σ.h = some hl)
      (hs : stepA P gl call e.o { e.p.σ with h := hl } = some σ1) (hq : e.q.σ = { σ1 with h := unlockAll e.p.σ.h ((e.p.rds.filter fun x => !(befN bef e.i).testBit x.1).map (·.2)) σ1.h })
      (hll : e.q.last = some e.i) (hr : e.q.rds = e.p.rds)
  | new (hn : isNew e.o = true) (hs : stepA P gl call e.o e.p.σ = some e.q.σ) (hf : ∀ x ∈ e.p.rds, x.2 ≠ e.p.σ.h.next) (hll : e.q.last = some e.i) (hr : e.q.rds = e.p.rds)

/-- What is known of a step. -/
structure Fact (P : Program) (gl : Nat → Option Nat) (call : CallA) (ops : Array Oper) (bef : List Nat) (e : Ent) : Prop where
  op : ops.toList[e.i]? = some e.o
  sub : ∀ k, (befN bef e.i).testBit k = true → e.p.done.testBit k = true
  new : e.p.done.testBit e.i = false
  done : e.q.done = e.p.done ||| 2 ^ e.i
  kind : Kind P gl call ops bef e

def Chain : RSt → List Ent → RSt → Prop
  | r, [], r' => r' = r
  | r, e :: E, r' => e.p = r ∧ Chain e.q E r'

theorem Chain.split : ∀ {E1 : List Ent} {r : RSt} {e : Ent} {E2 : List Ent} {r' : RSt}, Chain r (E1 ++ e :: E2) r' → Chain r E1 e.p ∧ Chain e.q E2 r' := by
  intro E1
  induction E1 with
  | nil => intro r e E2 r' h; exact ⟨h.1, h.2⟩
  | cons x E1 ih =>
    intro r e E2 r' h
    obtain ⟨h1, h2⟩ := ih h.2
    exact ⟨⟨h.1, h1⟩, h2⟩

variable {call : CallA} {ops : Array Oper} {bef : List Nat}

/-- What has been done along a chain. -/
theorem Chain.done : ∀ {E : List Ent} {r r' : RSt}, Chain r E r' → (∀ e ∈ E, Fact P gl call ops bef e) → ∀ k, r'.done.testBit k = true ↔ (r.done.testBit k = true ∨ k ∈ E.map (·.i)) := by
  intro E
  induction E with
  | nil => intro r r' h _ k; have : r' = r := h; subst this; simp
  | cons e E ih =>
    intro r r' h hf k
    obtain ⟨h1, h2⟩ := h
    subst h1
    rw [ih h2 (fun x hx => hf x (List.mem_cons.2 (.inr hx))) k, (hf e (List.mem_cons.2 (.inl rfl))).done, testBit_done]
    simp only [Bool.or_eq_true, decide_eq_true_eq, List.map_cons, List.mem_cons]
    constructor
    · rintro ((h | h) | h)
      · exact .inl h
      · exact .inr (.inl h.symm)
      · exact .inr (.inr h)
    · rintro (h | h | h)
      · exact .inl (.inl h)
      · exact .inl (.inr h.symm)
      · exact .inr h

theorem eff_new {e : Ent} (hn : isNew e.o = true) : wantA ops e.o e.p.σ.T = some true ∧ effE P ops e = true := by
  obtain ⟨h1, _, h3, _⟩ := isNew_some (P := P) hn
  have hw : wantA ops e.o e.p.σ.T = some true := by unfold wantA; rw [h1]
  exact ⟨hw, by unfold effE; rw [hw, h3]; rfl⟩

/-- What a step leaves of temporaries that are not its own, of the heap where it does not change it. -/
theorem Fact.keeps {e : Ent} (f : Fact P gl call ops bef e) : e.q.σ.n = e.p.σ.n ∧ (∀ t, e.o.dst ≠ some t → e.q.σ.T.get t = e.p.σ.T.get t) ∧ (effE P ops e = false → e.q.σ.h = e.p.σ.h ∧ e.q.σ.ds = e.p.σ.ds) := by
  cases f.kind with
  | skip hw hs hl hr =>
    obtain ⟨h1, h2, h3, h4⟩ := putA_get hs
    exact ⟨h1, fun t ht => by rw [h4, if_neg ht], fun _ => ⟨h2, h3⟩⟩
  | pur hw hc hs hl hr =>
    obtain ⟨v, h', d, hv, hp⟩ := stepA_open hs
    obtain ⟨h1, h2, h3, h4⟩ := putA_get hp
    obtain ⟨e1, e2, _⟩ := pur_ok hc hv
    subst e1 e2
    exact ⟨h1, fun t ht => by rw [h4, if_neg ht], fun _ => ⟨h2, h3⟩⟩
  | rd hw hc hok hs hl hr =>
    obtain ⟨v, h', d, hv, hp⟩ := stepA_open hs
    obtain ⟨h1, h2, h3, h4⟩ := putA_get hp
    obtain ⟨e1, e2, _⟩ := rd_ok hc hv
    subst e1 e2
    exact ⟨h1, fun t ht => by rw [h4, if_neg ht], fun _ => ⟨h2, h3⟩⟩
  | eff hnn hw hc hok hl σ1 hlk hs hq hll hr =>
    obtain ⟨v, h', d, hv, hp⟩ := stepA_open hs
    obtain ⟨h1, h2, h3, h4⟩ := putA_get hp
    rw [hq]
    refine ⟨h1, fun t ht => by show σ1.T.get t = _; rw [h4, if_neg ht], fun he => ?_⟩
    unfold effE at he
    rw [hw] at he
    have : Nat.ble 2 (clsA P e.o.op) = true := Nat.ble_eq_true_of_le hc
    rw [this] at he
    cases he
  | new hn hs hff hll hr =>
    obtain ⟨v, h', d, hv, hp⟩ := stepA_open hs
    obtain ⟨h1, h2, h3, h4⟩ := putA_get hp
    refine ⟨h1, fun t ht => by rw [h4, if_neg ht], fun he => ?_⟩
    rw [(eff_new (ops := ops) (P := P) hn).2] at he
    cases he

theorem Chain.val : ∀ {E : List Ent} {r r' : RSt}, Chain r E r' → (∀ e ∈ E, Fact P gl call ops bef e) → ∀ t, r'.σ.T.get t = valD (fun _ => true) t E (r.σ.T.get t) := by
  intro E
  induction E with
  | nil => intro r r' h _ t; have : r' = r := h; subst this; rfl
  | cons e E ih =>
    intro r r' h hf t
    obtain ⟨h1, h2⟩ := h
    subst h1
    rw [ih h2 (fun x hx => hf x (List.mem_cons.2 (.inr hx))) t]
    simp only [valD]
    congr 1
    by_cases hd : e.o.dst = some t
    · rw [if_pos ⟨trivial, hd⟩]
    · rw [if_neg (fun hh => hd hh.2)]
      exact (hf e (List.mem_cons.2 (.inl rfl))).keeps.2.1 t hd

theorem Chain.hds : ∀ {E : List Ent} {r r' : RSt}, Chain r E r' → (∀ e ∈ E, Fact P gl call ops bef e) → (r'.σ.h, r'.σ.ds) = hdsD P ops (fun _ => true) E (r.σ.h, r.σ.ds) := by
  intro E
  induction E with
  | nil => intro r r' h _; have : r' = r := h; subst this; rfl
  | cons e E ih =>
    intro r r' h hf
    obtain ⟨h1, h2⟩ := h
    subst h1
    rw [ih h2 (fun x hx => hf x (List.mem_cons.2 (.inr hx)))]
    simp only [hdsD]
    congr 1
    by_cases hd : effE P ops e = true
    · rw [if_pos ⟨trivial, hd⟩]
    · rw [if_neg (fun hh => hd hh.2)]
      have := (hf e (List.mem_cons.2 (.inl rfl))).keeps.2.2 (by simpa using hd)
      rw [this.1, this.2]

theorem Chain.n : ∀ {E : List Ent} {r r' : RSt}, Chain r E r' → (∀ e ∈ E, Fact P gl call ops bef e) → r'.σ.n = r.σ.n := by
  intro E
  induction E with
  | nil => intro r r' h _; have : r' = r := h; subst this; rfl
  | cons e E ih =>
    intro r r' h hf
    obtain ⟨h1, h2⟩ := h
    subst h1
    rw [ih h2 (fun x hx => hf x (List.mem_cons.2 (.inr hx)))]
    exact (hf e (List.mem_cons.2 (.inl rfl))).keeps.1

/-- Of a trace from the beginning: what comes before what. -/
theorem order_facts {E1 : List Ent} {e : Ent} {E2 : List Ent} {r r' : RSt} (h : Chain r (E1 ++ e :: E2) r') (h0 : r.done = 0) (hf : ∀ x ∈ E1 ++ e :: E2, Fact P gl call ops bef x) :
    (∀ x ∈ E1, x.i ≠ e.i) ∧ (∀ x ∈ E2, x.i ≠ e.i) ∧ (∀ k, (befN bef e.i).testBit k = true → k ∈ E1.map (·.i)) ∧ (∀ x ∈ E1, (befN bef x.i).testBit e.i = false) ∧ (∀ x ∈ E2, (befN bef e.i).testBit x.i = false) := by
  obtain ⟨c1, c2⟩ := h.split
  have f1 : ∀ x ∈ E1, Fact P gl call ops bef x := fun x hx => hf x (List.mem_append.2 (.inl hx))
  have fe := hf e (List.mem_append.2 (.inr (List.mem_cons.2 (.inl rfl))))
  have f2 : ∀ x ∈ E2, Fact P gl call ops bef x := fun x hx => hf x (List.mem_append.2 (.inr (List.mem_cons.2 (.inr hx))))
  have d1 : ∀ k, e.p.done.testBit k = true ↔ k ∈ E1.map (·.i) := fun k => by rw [c1.done f1 k, h0]; simp
  have dq : ∀ k, e.q.done.testBit k = true ↔ (k ∈ E1.map (·.i) ∨ k = e.i) := fun k => by
    rw [fe.done, testBit_done, Bool.or_eq_true, d1, decide_eq_true_eq]
    exact ⟨fun h => h.imp id Eq.symm, fun h => h.imp id Eq.symm⟩
  have hsplit2 : ∀ x ∈ E2, ∃ F1 F2, E2 = F1 ++ x :: F2 := fun x hx => List.append_of_mem hx
  have n2 : ∀ x ∈ E2, x.i ≠ e.i ∧ x.i ∉ E1.map (·.i) := fun x hx => by
    obtain ⟨F1, F2, rfl⟩ := hsplit2 x hx
    obtain ⟨c3, c4⟩ := c2.split
    have hx := (f2 x hx).new
    have hd := c3.done (fun y hy => f2 y (List.mem_append.2 (.inl hy))) x.i
    have : ¬ x.p.done.testBit x.i = true := by rw [hx]; simp
    rw [hd, dq] at this
    exact ⟨fun h => this (.inl (.inr h)), fun h => this (.inl (.inl h))⟩
  refine ⟨fun x hx he => ?_, fun x hx => (n2 x hx).1, fun k hk => (d1 k).1 (fe.sub k hk), fun x hx => ?_, fun x hx => ?_⟩
  · have hn := fe.new
    have : e.p.done.testBit e.i = true := (d1 e.i).2 (List.mem_map.2 ⟨x, hx, he⟩)
    rw [hn] at this
    cases this
  · cases hb : (befN bef x.i).testBit e.i with
    | false => rfl
    | true =>
      obtain ⟨F1, F2, rfl⟩ := List.append_of_mem hx
      obtain ⟨c3, c4⟩ := c1.split
      have h1 := (f1 x hx).sub _ hb
      rw [c3.done (fun y hy => f1 y (List.mem_append.2 (.inl hy))) e.i, h0] at h1
      have hn := fe.new
      have : e.p.done.testBit e.i = true := (d1 e.i).2 (by
        rcases h1 with h1 | h1
        · simp at h1
        · simp only [List.map_append, List.mem_append]; exact .inl h1)
      rw [hn] at this
      cases this
  · cases hb : (befN bef e.i).testBit x.i with
    | false => rfl
    | true => exact absurd ((d1 _).1 (fe.sub _ hb)) (n2 x hx).2

section
variable {E1 : List Ent} {e : Ent} {E2 : List Ent} {r r' : RSt} {D : Nat → Bool}

/-- What an operation looks at is the same, whatever has come up beside it. -/
theorem val_at (h : Chain r (E1 ++ e :: E2) r') (h0 : r.done = 0) (hf : ∀ x ∈ E1 ++ e :: E2, Fact P gl call ops bef x) (ha : apartOk ops bef = true) (hD : Closed bef D) (he : D e.i = false) (hb : ∀ k, (befN bef e.i).testBit k = true → D k = true)
    {t : Tmp} (ht : t ∈ e.o.looksAt ops ∨ e.o.dst = some t) : valD D t (E1 ++ e :: E2) (r.σ.T.get t) = e.p.σ.T.get t := by
  obtain ⟨o1, o2, o3, o4, o5⟩ := order_facts h h0 hf
  obtain ⟨c1, c2⟩ := h.split
  have fe := hf e (List.mem_append.2 (.inr (List.mem_cons.2 (.inl rfl))))
  rw [valD_append]
  have g1 : valD D t E1 (r.σ.T.get t) = e.p.σ.T.get t := by
    rw [c1.val (fun x hx => hf x (List.mem_append.2 (.inl hx))) t]
    refine valD_congr fun x hx hd => ?_
    rcases share ha fe.op (hf x (List.mem_append.2 (.inl hx))).op (o1 x hx) hd ht with ⟨_, hs⟩ | ⟨_, hs⟩
    · rw [hb _ hs]
    · rw [o4 x hx] at hs; cases hs
  rw [g1]
  simp only [valD]
  rw [if_neg (fun hh => by rw [he] at hh; cases hh.1)]
  refine valD_none fun x hx hd => ?_
  cases hx2 : D x.i with
  | false => rfl
  | true =>
    rcases share ha fe.op (hf x (List.mem_append.2 (.inr (List.mem_cons.2 (.inr hx))))).op (o2 x hx) hd ht with ⟨_, hs⟩ | ⟨_, hs⟩
    · rw [o5 x hx] at hs; cases hs
    · rw [hD _ _ hx2 hs] at he; cases he

/-- Behind the operation. -/
theorem val_after (h : Chain r (E1 ++ e :: E2) r') (h0 : r.done = 0) (hf : ∀ x ∈ E1 ++ e :: E2, Fact P gl call ops bef x) (ha : apartOk ops bef = true) (hD : Closed bef D) (he : D e.i = false) (t : Tmp) :
    valD (fun j => D j || j == e.i) t (E1 ++ e :: E2) (r.σ.T.get t) = if e.o.dst = some t then e.q.σ.T.get t else valD D t (E1 ++ e :: E2) (r.σ.T.get t) := by
  obtain ⟨o1, o2, o3, o4, o5⟩ := order_facts h h0 hf
  have fe := hf e (List.mem_append.2 (.inr (List.mem_cons.2 (.inl rfl))))
  have same : ∀ x ∈ E1 ++ E2, (D x.i || x.i == e.i) = D x.i := fun x hx => by
    have : x.i ≠ e.i := (List.mem_append.1 hx).elim (o1 x) (o2 x)
    have : (x.i == e.i) = false := by simpa using this
    rw [this, Bool.or_false]
  rw [valD_append, valD_append]
  rw [valD_congr (D1 := fun j => D j || j == e.i) (D2 := D) (fun x hx _ => same x (List.mem_append.2 (.inl hx)))]
  simp only [valD]
  have hei : (D e.i || e.i == e.i) = true := by simp
  by_cases hd : e.o.dst = some t
  · rw [if_pos ⟨hei, hd⟩, if_pos hd]
    refine valD_none fun x hx hdx => ?_
    rw [same x (List.mem_append.2 (.inr hx))]
    cases hx2 : D x.i with
    | false => rfl
    | true =>
      rcases share ha fe.op (hf x (List.mem_append.2 (.inr (List.mem_cons.2 (.inr hx))))).op (o2 x hx) hdx (.inr hd) with ⟨_, hs⟩ | ⟨_, hs⟩
      · rw [o5 x hx] at hs; cases hs
      · rw [hD _ _ hx2 hs] at he; cases he
  · rw [if_neg (fun hh => hd hh.2), if_neg hd, if_neg (fun hh => hd hh.2)]
    exact valD_congr fun x hx _ => same x (List.mem_append.2 (.inr hx))

/-- The operations that may change the heap come up one behind the other. -/
theorem eff_in : ∀ {E : List Ent} {r r' : RSt}, Chain r E r' → (∀ x ∈ E, Fact P gl call ops bef x) → Closed bef D → (∀ x ∈ E, isNew x.o = true → D x.i = true → ∀ l, x.p.last = some l → D l = true) → (∀ l, r'.last = some l → D l = true) → (∀ x ∈ E, effE P ops x = true → D x.i = true) ∧ (∀ l, r.last = some l → D l = true) := by
  intro E
  induction E with
  | nil => intro r r' h _ _ _ hl; have : r' = r := h; subst this; exact ⟨fun x hx => by simp at hx, hl⟩
  | cons e E ih =>
    intro r r' h hf hD hN hl
    obtain ⟨h1, h2⟩ := h
    subst h1
    obtain ⟨g1, g2⟩ := ih h2 (fun x hx => hf x (List.mem_cons.2 (.inr hx))) hD (fun x hx => hN x (List.mem_cons.2 (.inr hx))) hl
    have hok : ∀ {l : Option Nat}, lastOk (befN bef e.i) l = true → D e.i = true → ∀ k, l = some k → D k = true := fun hl hd k hk => by
      subst hk
      exact hD _ _ hd hl
    have noteff : e.q.last = e.p.last → effE P ops e = false → (∀ x ∈ e :: E, effE P ops x = true → D x.i = true) ∧ (∀ l, e.p.last = some l → D l = true) := fun hq hn =>
      ⟨fun x hx hxe => by
        rcases List.mem_cons.1 hx with rfl | hx
        · rw [hn] at hxe; cases hxe
        · exact g1 x hx hxe, fun l hl => g2 l (by rw [hq]; exact hl)⟩
    cases (hf e (List.mem_cons.2 (.inl rfl))).kind with
    | skip hw hs hl hr => exact noteff hl (by unfold effE; rw [hw])
    | pur hw hc hs hl hr => exact noteff hl (by unfold effE; rw [hw, hc]; rfl)
    | rd hw hc hok hs hl hr => exact noteff hl (by unfold effE; rw [hw, hc]; rfl)
    | eff hnn hw hc hok' hl σ1 hlk hs hq hll hr =>
      have hde := g2 _ hll
      exact ⟨fun x hx hxe => by
        rcases List.mem_cons.1 hx with rfl | hx
        · exact hde
        · exact g1 x hx hxe, hok hok' hde⟩
    | new hn hs hff hll hr =>
      have hde := g2 _ hll
      exact ⟨fun x hx hxe => by
        rcases List.mem_cons.1 hx with rfl | hx
        · exact hde
        · exact g1 x hx hxe, hN e (List.mem_cons.2 (.inl rfl)) hn hde⟩

theorem last_in {i : Nat} {l : Option Nat} (hok : lastOk (befN bef i) l = true) (hb : ∀ k, (befN bef i).testBit k = true → D k = true) : ∀ k, l = some k → D k = true := fun k hk => by
  subst hk
  exact hb k hok

theorem eff_later (h : Chain r (E1 ++ e :: E2) r') (hf : ∀ x ∈ E1 ++ e :: E2, Fact P gl call ops bef x) (hD : Closed bef D) (hN : ∀ x ∈ E1 ++ e :: E2, isNew x.o = true → D x.i = true → ∀ l, x.p.last = some l → D l = true) {F1 F2 : List Ent} {x : Ent} (hE : E2 = F1 ++ x :: F2) (hx : effE P ops x = true) (hdx : D x.i = true) :
    (effE P ops e = true → D e.i = true) ∧ (∀ y ∈ F1, effE P ops y = true → D y.i = true) := by
  obtain ⟨c1, c2⟩ := h.split
  subst hE
  obtain ⟨c3, c4⟩ := c2.split
  have fx := hf x (List.mem_append.2 (.inr (List.mem_cons.2 (.inr (List.mem_append.2 (.inr (List.mem_cons.2 (.inl rfl))))))))
  have hc : Chain e.p (e :: F1) x.p := ⟨rfl, c3⟩
  have hfc : ∀ y ∈ e :: F1, Fact P gl call ops bef y := fun y hy => hf y (List.mem_append.2 (.inr (by
    rcases List.mem_cons.1 hy with rfl | hy
    · exact List.mem_cons.2 (.inl rfl)
    · exact List.mem_cons.2 (.inr (List.mem_append.2 (.inl hy))))))
  have hl : ∀ l, x.p.last = some l → D l = true := by
    cases fx.kind with
    | skip hw hs hl hr => unfold effE at hx; rw [hw] at hx; cases hx
    | pur hw hc hs hl hr => unfold effE at hx; rw [hw, hc] at hx; cases hx
    | rd hw hc hok hs hl hr => unfold effE at hx; rw [hw, hc] at hx; cases hx
    | eff hnn hw hc hok hl σ1 hlk hs hq hll hr => exact last_in hok fun k hk => hD _ _ hdx hk
    | new hn hs hff hll hr => exact hN x (List.mem_append.2 (.inr (List.mem_cons.2 (.inr (List.mem_append.2 (.inr (List.mem_cons.2 (.inl rfl)))))))) hn hdx
  obtain ⟨g1, _⟩ := eff_in hc hfc hD (fun y hy => hN y (List.mem_append.2 (.inr (by
    rcases List.mem_cons.1 hy with rfl | hy
    · exact List.mem_cons.2 (.inl rfl)
    · exact List.mem_cons.2 (.inr (List.mem_append.2 (.inl hy))))))) hl
  exact ⟨fun he => g1 e (List.mem_cons.2 (.inl rfl)) he, fun y hy hye => g1 y (List.mem_cons.2 (.inr hy)) hye⟩

/-- An operation that may change the heap finds it as in the trace. -/
theorem hds_at (h : Chain r (E1 ++ e :: E2) r') (hf : ∀ x ∈ E1 ++ e :: E2, Fact P gl call ops bef x) (hD : Closed bef D) (hN : ∀ x ∈ E1 ++ e :: E2, isNew x.o = true → D x.i = true → ∀ l, x.p.last = some l → D l = true) (he : D e.i = false) (hl : ∀ l, e.p.last = some l → D l = true) (hee : effE P ops e = true) :
    hdsD P ops D (E1 ++ e :: E2) (r.σ.h, r.σ.ds) = (e.p.σ.h, e.p.σ.ds) ∧ hdsD P ops (fun j => D j || j == e.i) (E1 ++ e :: E2) (r.σ.h, r.σ.ds) = (e.q.σ.h, e.q.σ.ds) := by
  obtain ⟨c1, c2⟩ := h.split
  have f1 : ∀ x ∈ E1, Fact P gl call ops bef x := fun x hx => hf x (List.mem_append.2 (.inl hx))
  obtain ⟨g1, _⟩ := eff_in c1 f1 hD (fun x hx => hN x (List.mem_append.2 (.inl hx))) hl
  have later : ∀ x ∈ E2, effE P ops x = true → D x.i = false := fun x hx hxe => by
    obtain ⟨F1, F2, hE⟩ := List.append_of_mem hx
    cases hdx : D x.i with
    | false => rfl
    | true => rw [(eff_later h hf hD hN hE hxe hdx).1 hee] at he; cases he
  have a1 : hdsD P ops D E1 (r.σ.h, r.σ.ds) = (e.p.σ.h, e.p.σ.ds) := by
    rw [c1.hds f1]
    exact hdsD_congr fun x hx hxe => g1 x hx hxe
  have a2 : hdsD P ops (fun j => D j || j == e.i) E1 (r.σ.h, r.σ.ds) = (e.p.σ.h, e.p.σ.ds) := by
    rw [c1.hds f1]
    exact hdsD_congr fun x hx hxe => by rw [g1 x hx hxe]; rfl
  refine ⟨?_, ?_⟩
  · rw [hdsD_append, a1]
    simp only [hdsD]
    rw [if_neg (fun hh => by rw [he] at hh; cases hh.1)]
    exact hdsD_none later
  · rw [hdsD_append, a2]
    simp only [hdsD]
    rw [if_pos ⟨by simp, hee⟩]
    refine hdsD_none fun x hx hxe => ?_
    rw [later x hx hxe]
    have : x.i ≠ e.i := fun heq => ?_
    · simpa using this
    · have fx := hf x (List.mem_append.2 (.inr (List.mem_cons.2 (.inr hx))))
      obtain ⟨F1, F2, rfl⟩ := List.append_of_mem hx
      obtain ⟨c3, c4⟩ := c2.split
      have hn := fx.new
      have hd := (c3.done (fun y hy => hf y (List.mem_append.2 (.inr (List.mem_cons.2 (.inr (List.mem_append.2 (.inl hy))))))) x.i).2
      have fe := hf e (List.mem_append.2 (.inr (List.mem_cons.2 (.inl rfl))))
      rw [hd (.inl (by rw [fe.done, testBit_done, heq]; simp))] at hn
      cases hn

/-- What is read is as in the trace. -/
theorem hds_get {b : Nat} : ∀ {E : List Ent} {c c' : RSt} {ds : List (FuncId × List Value)}, Chain c E c' → (∀ x ∈ E, Fact P gl call ops bef x) → Closed bef D →
    (∀ x ∈ E, effE P ops x = true → D x.i = true → x.q.σ.h.get b = x.p.σ.h.get b) →
    (∀ F1 x F2, E = F1 ++ x :: F2 → effE P ops x = true → D x.i = true → ∀ y ∈ F1, effE P ops y = true → D y.i = true) →
    ∀ h, h = c.σ.h → (hdsD P ops D E (h, ds)).1.get b = c.σ.h.get b := by
  intro E
  induction E with
  | nil => intro c c' ds _ _ _ _ _ h hh; subst hh; rfl
  | cons e E ih =>
    intro c c' ds hc hf hD hk hp h hh
    obtain ⟨h1, h2⟩ := hc
    subst h1
    subst hh
    simp only [hdsD]
    have hf' : ∀ x ∈ E, Fact P gl call ops bef x := fun x hx => hf x (List.mem_cons.2 (.inr hx))
    have hk' : ∀ x ∈ E, effE P ops x = true → D x.i = true → x.q.σ.h.get b = x.p.σ.h.get b := fun x hx => hk x (List.mem_cons.2 (.inr hx))
    have hp' : ∀ F1 x F2, E = F1 ++ x :: F2 → effE P ops x = true → D x.i = true → ∀ y ∈ F1, effE P ops y = true → D y.i = true := fun F1 x F2 hE hx hd y hy =>
      hp (e :: F1) x F2 (by rw [hE]; rfl) hx hd y (List.mem_cons.2 (.inr hy))
    by_cases hee : effE P ops e = true
    · by_cases hde : D e.i = true
      · rw [if_pos ⟨hde, hee⟩, ih h2 hf' hD hk' hp' _ rfl]
        exact hk e (List.mem_cons.2 (.inl rfl)) hee hde
      · rw [if_neg (fun hh => hde hh.1), hdsD_none fun x hx hxe => ?_]
        cases hdx : D x.i with
        | false => rfl
        | true =>
          obtain ⟨F1, F2, hE⟩ := List.append_of_mem hx
          exact absurd (hp (e :: F1) x F2 (by rw [hE]; rfl) hxe hdx e (List.mem_cons.2 (.inl rfl)) hee) hde
    · rw [if_neg (fun hh => hee hh.2)]
      have hq := ((hf e (List.mem_cons.2 (.inl rfl))).keeps.2.2 (by simpa using hee)).1
      rw [ih h2 hf' hD hk' hp' _ hq.symm, hq]

theorem rds_grow : ∀ {E : List Ent} {c c' : RSt}, Chain c E c' → (∀ x ∈ E, Fact P gl call ops bef x) → ∀ y ∈ c.rds, y ∈ c'.rds := by
  intro E
  induction E with
  | nil => intro c c' h _ y hy; have : c' = c := h; subst this; exact hy
  | cons e E ih =>
    intro c c' h hf y hy
    obtain ⟨h1, h2⟩ := h
    subst h1
    refine ih h2 (fun x hx => hf x (List.mem_cons.2 (.inr hx))) y ?_
    cases (hf e (List.mem_cons.2 (.inl rfl))).kind with
    | skip hw hs hl hr => rw [hr]; exact hy
    | pur hw hc hs hl hr => rw [hr]; exact hy
    | rd hw hc hok hs hl hr =>
      rw [hr]
      split
      · exact List.mem_cons.2 (.inr hy)
      · exact hy
    | eff hnn hw hc hok hl σ1 hlk hs hq hll hr => rw [hr]; exact hy
    | new hn hs hff hll hr => rw [hr]; exact hy

theorem rd_at (h : Chain r (E1 ++ e :: E2) r') (hf : ∀ x ∈ E1 ++ e :: E2, Fact P gl call ops bef x) (hD : Closed bef D) (hN : ∀ x ∈ E1 ++ e :: E2, isNew x.o = true → D x.i = true → ∀ l, x.p.last = some l → D l = true) (he : D e.i = false) (hl : ∀ l, e.p.last = some l → D l = true) (hne : effE P ops e = false)
    {b : Nat} (hrd : (e.i, b) ∈ e.q.rds) : (hdsD P ops D (E1 ++ e :: E2) (r.σ.h, r.σ.ds)).1.get b = e.p.σ.h.get b := by
  obtain ⟨c1, c2⟩ := h.split
  have f1 : ∀ x ∈ E1, Fact P gl call ops bef x := fun x hx => hf x (List.mem_append.2 (.inl hx))
  have fe := hf e (List.mem_append.2 (.inr (List.mem_cons.2 (.inl rfl))))
  have f2 : ∀ x ∈ E2, Fact P gl call ops bef x := fun x hx => hf x (List.mem_append.2 (.inr (List.mem_cons.2 (.inr hx))))
  obtain ⟨g1, _⟩ := eff_in c1 f1 hD (fun x hx => hN x (List.mem_append.2 (.inl hx))) hl
  have a1 : hdsD P ops D E1 (r.σ.h, r.σ.ds) = (e.p.σ.h, e.p.σ.ds) := by
    rw [c1.hds f1]
    exact hdsD_congr fun x hx hxe => g1 x hx hxe
  obtain ⟨k1, k2⟩ := fe.keeps.2.2 hne
  rw [hdsD_append, a1]
  simp only [hdsD]
  rw [if_neg (fun hh => by rw [he] at hh; cases hh.1)]
  rw [hds_get c2 f2 hD (fun x hx hxe hdx => ?_) (fun F1 x F2 hE hxe hdx => (eff_later h hf hD hN hE hxe hdx).2) _ k1.symm, k1]
  obtain ⟨F1, F2, hE⟩ := List.append_of_mem hx
  have hmem : (e.i, b) ∈ x.p.rds := by
    subst hE
    obtain ⟨c3, _⟩ := c2.split
    exact rds_grow c3 (fun y hy => f2 y (List.mem_append.2 (.inl hy))) _ hrd
  have hnb : (befN bef x.i).testBit e.i = false := by
    cases hb : (befN bef x.i).testBit e.i with
    | false => rfl
    | true => rw [hD _ _ hdx hb] at he; cases he
  cases (f2 x hx).kind with
  | skip hw hs hl hr => unfold effE at hxe; rw [hw] at hxe; cases hxe
  | pur hw hc hs hl hr => unfold effE at hxe; rw [hw, hc] at hxe; cases hxe
  | rd hw hc hok hs hl hr => unfold effE at hxe; rw [hw, hc] at hxe; cases hxe
  | eff hnn hw hc hok hl σ1 hlk hs hq hll hr =>
    rw [hq]
    refine (unlockAll_get x.p.σ.h _ σ1.h).2.1 b (List.mem_map.2 ⟨(e.i, b), List.mem_filter.2 ⟨hmem, ?_⟩, rfl⟩)
    rw [hnb]; rfl
  | new hn hs hff hll hr =>
    obtain ⟨v, h', d, hv, hp⟩ := stepA_open hs
    obtain ⟨_, g2, _, _⟩ := putA_get hp
    rw [stepV_new hn] at hv
    split at hv
    · cases hv
      rw [g2]
      show (AH.add _ _).get b = _
      rw [AH.get_add, if_neg (hff _ hmem)]
    · cases hv
end

end N
end Go.Proofs.YtachednafdmmaaaDoor.AI
namespace Go.Proofs.YtachednafdmmaaaDoor.AI.N
open Go
set_option linter.unusedVariables false
set_option linter.unusedSimpArgs false

variable {P : Program} {gl : Nat → Option Nat} {call : CallA} {ops : Array Oper} {bef : List Nat}

/-- What is known of a row that has been made, and has not been taken up yet. -/
structure Pend (P : Program) (gl : Nat → Option Nat) (μ : Mu) (h : AH) (a : Act) (w : World) (s0 : Nat) (e : Ent) (B : Nat) : Prop where
  tmp : ∀ d, e.o.dst = some d → a.tmps[d]? = some (nPhy e.o.op B)
  cell : ∃ z cs C ty, nRow P (evA gl e.p.σ.T) e.o.op = some (z, cs) ∧ w.heap[B]? = some (.cells C ty (0, 0)) ∧ LRel μ h.next cs C.toList
  far : ∀ (j : Nat) (b : Blk), h.get j = some b → (μ j).b ≠ B
  new : s0 ≤ B
  nfr : ∀ C, μ.fr B ≠ some C

theorem Pend.lt {μ : Mu} {h : AH} {a : Act} {w : World} {s0 : Nat} {e : Ent} {B : Nat} (p : Pend P gl μ h a w s0 e B) : B < w.heap.size := by
  obtain ⟨z, cs, C, ty, _, h1, _⟩ := p.cell
  rcases Nat.lt_or_ge B w.heap.size with h2 | h2
  · exact h2
  · rw [Array.getElem?_eq_none h2] at h1; cases h1

theorem Pend.step {μ μ' : Mu} {h h' : AH} {a a' : Act} {w w' : World} {s0 : Nat} {e : Ent} {B : Nat} (p : Pend P gl μ h a w s0 e B) (hh : HRel gl μ h w) (fr : Fr μ h w μ' h' w') (ht : ∀ d, e.o.dst = some d → a'.tmps[d]? = a.tmps[d]?) : Pend P gl μ' h' a' w' s0 e B := by
  have hn : ¬ Wr μ h B := fun ⟨i, b, h1, _, h3⟩ => p.far i b h1 h3
  refine ⟨fun d hd => by rw [ht d hd]; exact p.tmp d hd, ?_, fun j b hj he => ?_, p.new, fun C hC => (fr.ext.new B C hC).elim (p.nfr C) fun h => h.elim hn fun h => by have := p.lt; omega⟩
  · obtain ⟨z, cs, C, ty, h1, h2, h3⟩ := p.cell
    exact ⟨z, cs, C, ty, h1, by rw [fr.keep B p.lt hn]; exact h2, h3.mono fr.ext fr.next⟩
  · cases hr : b.ro with
    | true =>
      have h1 := fr.ron j b hj hr
      rw [fr.ext.loc j (hh.lt j b h1)] at he
      exact p.far j b h1 he
    | false =>
      rcases fr.own B ⟨j, b, hj, hr, he⟩ with h1 | h1
      · exact hn h1
      · have := p.lt; omega

theorem nPhy_rel {μ : Mu} {n : Nat} {o : Oper} (hn : isNew o = true) {id B : Nat} (hid : id < n) (hB : μ id = ⟨B, 0, 0⟩) : VRel μ n (nVal o.op id) (nPhy o.op B) := by
  obtain ⟨_, _, _, ⟨t, ho⟩ | ⟨t, len, ps, ho⟩⟩ := isNew_some (P := default) hn
  · rw [ho]
    have := VRel.ptr (μ := μ) (n := n) id 0 hid
    rw [hB] at this
    exact this
  · rw [ho]
    have := VRel.slc (μ := μ) (n := n) id 0 len 0 hid
    rw [hB] at this
    exact this

/-- What was last done to the heap is of the chain. -/
theorem Chain.last : ∀ {E : List Ent} {r r' : RSt}, Chain r E r' → (∀ x ∈ E, Fact P gl call ops bef x) → ∀ l, r'.last = some l → r.last = some l ∨ l ∈ E.map (·.i) := by
  intro E
  induction E with
  | nil => intro r r' h _ l hl; have : r' = r := h; subst this; exact .inl hl
  | cons e E ih =>
    intro r r' h hf l hl
    obtain ⟨h1, h2⟩ := h
    subst h1
    rcases ih h2 (fun x hx => hf x (List.mem_cons.2 (.inr hx))) l hl with h3 | h3
    · cases (hf e (List.mem_cons.2 (.inl rfl))).kind with
      | skip hw hs hq hr => rw [hq] at h3; exact .inl h3
      | pur hw hc hs hq hr => rw [hq] at h3; exact .inl h3
      | rd hw hc hok hs hq hr => rw [hq] at h3; exact .inl h3
      | eff hnn hw hc hok hlx σ1 hlk hs hq hll hr => rw [hll] at h3; cases h3; exact .inr (by simp)
      | new hn hs hff hll hr => rw [hll] at h3; cases h3; exact .inr (by simp)
    · exact .inr (by simp only [List.map_cons, List.mem_cons]; exact .inr h3)

section
variable {E : List Ent} {r0 r' : RSt} {μ0 : Mu} {h00 : AH} {w0 : World}

/-- What holds at any time: D has come up; A of it has been taken up. -/
structure Hold (P : Program) (gl : Nat → Option Nat) (ops : Array Oper) (bef : List Nat) (E : List Ent) (r0 : RSt) (μ0 : Mu) (h00 : AH) (w0 : World) (D : Nat → Bool) (a : Act) (w : World) (B : Nat → Nat) (A : Nat → Bool) (σ : St) (μ : Mu) : Prop where
  inv : Inv P ops E r0 A σ
  clA : Closed bef A
  sub : ∀ j, A j = true → D j = true
  pend : ∀ e ∈ E, D e.i = true → A e.i = false → isNew e.o = true
  nok : ∀ e ∈ E, isNew e.o = true → A e.i = true → ∀ l, e.p.last = some l → A l = true
  rel : SRel gl μ σ a w
  fr : Fr μ0 h00 w0 μ σ.h w
  pd : ∀ e ∈ E, D e.i = true → A e.i = false → Pend P gl μ σ.h a w w0.heap.size e (B e.i)
  dis : ∀ e ∈ E, ∀ x ∈ E, D e.i = true → A e.i = false → D x.i = true → A x.i = false → e.i ≠ x.i → B e.i ≠ B x.i

theorem new_q {e : Ent} (f : Fact P gl call ops bef e) (hn : isNew e.o = true) : ∃ d z cs, e.o.dst = some d ∧ nRow P (evA gl e.p.σ.T) e.o.op = some (z, cs) ∧ e.q.σ.h = e.p.σ.h.add (.row false z cs) ∧ e.q.σ.ds = e.p.σ.ds ∧ e.q.σ.T.get d = some (nVal e.o.op e.p.σ.h.next) := by
  obtain ⟨hg, ⟨d, hd⟩, hcl, _⟩ := isNew_some (P := P) hn
  have hw : wantA ops e.o e.p.σ.T = some true := by unfold wantA; rw [hg]
  have main : stepA P gl call e.o e.p.σ = some e.q.σ := by
    cases f.kind with
    | skip hw' hs hq hr => rw [hw] at hw'; cases hw'
    | pur hw' hc hs hq hr => rw [hcl] at hc; cases hc
    | rd hw' hc hok hs hq hr => rw [hcl] at hc; cases hc
    | eff hnn hw' hc hok hlx σ1 hlk hs hq hll hr => rw [hn] at hnn; cases hnn
    | new hn hs hff hll hr => exact hs
  obtain ⟨v, h', dd, hv, hp⟩ := stepA_open main
  rw [stepV_new hn] at hv
  split at hv
  · rename_i z cs hrow
    cases hv
    obtain ⟨g1, g2, g3, g4⟩ := putA_get hp
    exact ⟨d, z, cs, hd, hrow, g2, g3, by rw [g4, if_pos hd]⟩
  · cases hv

theorem val_of {e : Ent} {E1 E2 : List Ent} (hch : Chain r0 (E1 ++ e :: E2) r') (h0 : r0.done = 0) (hf : ∀ x ∈ E1 ++ e :: E2, Fact P gl call ops bef x) {x : Ent} (hx : x ∈ E1 ++ e :: E2) (hi : x.i = e.i) : x = e := by
  obtain ⟨o1, o2, _⟩ := order_facts hch h0 hf
  rcases List.mem_append.1 hx with hx | hx
  · exact absurd hi (o1 x hx)
  · rcases List.mem_cons.1 hx with rfl | hx
    · rfl
    · exact absurd hi (o2 x hx)

/-- One row is taken up. -/
theorem adopt1 {D : Nat → Bool} {a : Act} {w : World} {B : Nat → Nat} {A : Nat → Bool} {σ : St} {μ : Mu} {E1 E2 : List Ent} {e : Ent} (hE : E = E1 ++ e :: E2) (hch : Chain r0 E r') (h0 : r0.done = 0) (hf : ∀ x ∈ E, Fact P gl call ops bef x) (hap : apartOk ops bef = true)
    (H : Hold P gl ops bef E r0 μ0 h00 w0 D a w B A σ μ) (hDe : D e.i = true) (hAe : A e.i = false) (hb : ∀ k, (befN bef e.i).testBit k = true → A k = true) (hl : ∀ l, e.p.last = some l → A l = true) :
    ∃ σ' μ', Hold P gl ops bef E r0 μ0 h00 w0 D a w B (fun j => A j || j == e.i) σ' μ' := by
  have heE : e ∈ E := by rw [hE]; exact List.mem_append.2 (.inr (List.mem_cons.2 (.inl rfl)))
  have hn := H.pend e heE hDe hAe
  have hch' := hch
  have hf' := hf
  rw [hE] at hch' hf'
  obtain ⟨d, z, cs, hd, hrow, q1, q2, q3⟩ := new_q (hf e heE) hn
  have hee := (eff_new (P := P) (ops := ops) (e := e) hn).2
  have hN : ∀ x ∈ E1 ++ e :: E2, isNew x.o = true → A x.i = true → ∀ l, x.p.last = some l → A l = true := fun x hx => H.nok x (by rw [hE]; exact hx)
  obtain ⟨d1, d2⟩ := hds_at hch' hf' H.clA hN hAe hl hee
  rw [← hE, ← H.inv.hd] at d1
  rw [← hE] at d2
  have eh : σ.h = e.p.σ.h := (Prod.mk.inj d1).1
  have ed : σ.ds = e.p.σ.ds := (Prod.mk.inj d1).2
  have p := H.pd e heE hDe hAe
  obtain ⟨z', cs', C, ty, c1, c2, c3⟩ := p.cell
  rw [hrow] at c1
  cases c1
  have had := H.rel.heap.adopt z c2 c3 p.far p.nfr
  have hfa := H.fr.adopt H.rel.heap (z := z) (cs := cs) p.new
  have hext : Ext σ.h.next μ (upd μ σ.h.next ⟨B e.i, 0, 0⟩) (fun _ => True) := .upd _ _ _
  have hu : (upd μ σ.h.next ⟨B e.i, 0, 0⟩) σ.h.next = ⟨B e.i, 0, 0⟩ := upd_same _ _ _
  refine ⟨⟨σ.T.set d (some (nVal e.o.op σ.h.next)), σ.n, σ.h.add (.row false z cs), σ.ds⟩, upd μ σ.h.next ⟨B e.i, 0, 0⟩, ⟨fun t => ?_, ?_, H.inv.n⟩, fun j k hj hk => ?_, fun j hj => ?_, fun x hx hDx hAx => ?_, fun x hx hnx hAx l hxl => ?_, ⟨H.rel.size, fun t v ht => ?_, had, H.rel.ds.mono hext (Nat.le_succ _)⟩, hfa, fun x hx hDx hAx => ?_, fun x hx y hy g1 g2 g3 g4 => ?_⟩
  · show (σ.T.set d _).get t = _
    rw [Tr.get_set, hE, val_after hch' h0 hf' hap H.clA hAe t, hd]
    by_cases ht : t = d
    · subst ht
      rw [if_pos rfl, if_pos rfl, q3, eh]
    · rw [if_neg ht, if_neg (fun h => ht (Option.some.inj h).symm), ← hE]
      exact H.inv.T t
  · rw [d2, q1, q2, ← eh, ← ed]
  · simp only [Bool.or_eq_true, beq_iff_eq] at hj ⊢
    rcases hj with hj | hj
    · exact .inl (H.clA j k hj hk)
    · subst hj; exact .inl (hb k hk)
  · simp only [Bool.or_eq_true, beq_iff_eq] at hj
    rcases hj with hj | hj
    · exact H.sub j hj
    · rw [hj]; exact hDe
  · simp only [Bool.or_eq_false_iff] at hAx
    exact H.pend x hx hDx hAx.1
  · simp only [Bool.or_eq_true, beq_iff_eq] at hAx ⊢
    rcases hAx with hAx | hAx
    · exact .inl (H.nok x hx hnx hAx l hxl)
    · have := val_of hch' h0 hf' (by rw [← hE]; exact hx) hAx
      subst this
      exact .inl (hl l hxl)
  · dsimp only at ht
    rw [Tr.get_set] at ht
    split at ht
    · rename_i htd
      cases ht
      subst htd
      exact ⟨_, p.tmp _ hd, nPhy_rel hn (by show σ.h.next < σ.h.next + 1; omega) hu⟩
    · obtain ⟨c, g1, g2⟩ := H.rel.tmps t v ht
      exact ⟨c, g1, g2.mono hext (Nat.le_succ _)⟩
  · simp only [Bool.or_eq_false_iff, beq_eq_false_iff_ne] at hAx
    have px := H.pd x hx hDx hAx.1
    obtain ⟨zx, csx, Cx, tx, k1, k2, k3⟩ := px.cell
    refine ⟨px.tmp, ⟨zx, csx, Cx, tx, k1, k2, k3.mono hext (Nat.le_succ _)⟩, fun j b hj => ?_, px.new, px.nfr⟩
    rw [AH.get_add] at hj
    split at hj
    · rename_i hj'
      subst hj'
      rw [hu]
      exact H.dis e heE x hx hDe hAe hDx hAx.1 (fun h => hAx.2 h.symm)
    · rw [hext.loc j (H.rel.heap.lt j b hj)]
      exact px.far j b hj
  · simp only [Bool.or_eq_false_iff] at g2 g4
    exact H.dis x hx y hy g1 g2.1 g3 g4.1

/-- All that S names is taken up. -/
theorem settle {D : Nat → Bool} {a : Act} {w : World} {B : Nat → Nat} (hch : Chain r0 E r') (h0 : r0.done = 0) (hl0 : r0.last = none) (hf : ∀ x ∈ E, Fact P gl call ops bef x) (hap : apartOk ops bef = true) {S : Nat → Bool} (hS1 : ∀ j, S j = true → D j = true) (hS2 : Closed bef S)
    (hS3 : ∀ e ∈ E, isNew e.o = true → S e.i = true → ∀ l, e.p.last = some l → S l = true) : ∀ (E2 E1 : List Ent), E = E1 ++ E2 → ∀ (A : Nat → Bool) (σ : St) (μ : Mu), Hold P gl ops bef E r0 μ0 h00 w0 D a w B A σ μ → (∀ x ∈ E1, S x.i = true → A x.i = true) →
    ∃ A' σ' μ', Hold P gl ops bef E r0 μ0 h00 w0 D a w B A' σ' μ' ∧ (∀ x ∈ E, S x.i = true → A' x.i = true) := by
  intro E2
  induction E2 with
  | nil => intro E1 hE A σ μ H hA; rw [List.append_nil] at hE; subst hE; exact ⟨A, σ, μ, H, hA⟩
  | cons e E2 ih =>
    intro E1 hE A σ μ H hA
    have hE' : E = (E1 ++ [e]) ++ E2 := by rw [hE]; simp
    have heE : e ∈ E := by rw [hE]; exact List.mem_append.2 (.inr (List.mem_cons.2 (.inl rfl)))
    cases hS : S e.i with
    | false =>
      refine ih _ hE' A σ μ H fun x hx hSx => ?_
      rcases List.mem_append.1 hx with hx | hx
      · exact hA x hx hSx
      · rw [List.mem_singleton.1 hx, hS] at hSx; cases hSx
    | true =>
      cases hAe : A e.i with
      | true =>
        refine ih _ hE' A σ μ H fun x hx hSx => ?_
        rcases List.mem_append.1 hx with hx | hx
        · exact hA x hx hSx
        · rw [List.mem_singleton.1 hx]; exact hAe
      | false =>
        have hDe := hS1 _ hS
        have hn := H.pend e heE hDe hAe
        have hch' := hch
        have hf' := hf
        rw [hE] at hch' hf'
        obtain ⟨o1, o2, o3, o4, o5⟩ := order_facts hch' h0 hf'
        have hb : ∀ k, (befN bef e.i).testBit k = true → A k = true := fun k hk => by
          obtain ⟨x, hx, hxi⟩ := List.mem_map.1 (o3 k hk)
          rw [← hxi]
          exact hA x hx (by rw [hxi]; exact hS2 _ _ hS hk)
        have hl : ∀ l, e.p.last = some l → A l = true := fun l hel => by
          rcases Chain.last hch'.split.1 (fun x hx => hf' x (List.mem_append.2 (.inl hx))) l hel with h1 | h1
          · rw [hl0] at h1; cases h1
          · obtain ⟨x, hx, hxi⟩ := List.mem_map.1 h1
            rw [← hxi]
            exact hA x hx (by rw [hxi]; exact hS3 e heE hn hS l hel)
        obtain ⟨σ', μ', H'⟩ := adopt1 hE hch h0 hf hap H hDe hAe hb hl
        refine ih _ hE' _ σ' μ' H' fun x hx hSx => ?_
        rcases List.mem_append.1 hx with hx | hx
        · rw [hA x hx hSx]; rfl
        · rw [List.mem_singleton.1 hx]; simp
end

end Go.Proofs.YtachednafdmmaaaDoor.AI.N
