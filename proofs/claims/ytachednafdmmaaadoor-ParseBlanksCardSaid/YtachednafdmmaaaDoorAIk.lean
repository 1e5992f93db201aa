/- The abstract interpreter: every operation that calls nobody. -/
import Derived.Test.YtachednafdmmaaaDoorAIj
import Derived.Laws.Small
namespace Go.Proofs.YtachednafdmmaaaDoor.AI
open Go
set_option linter.unusedVariables false
set_option linter.unusedSimpArgs false

variable {P : Program} {gl : Nat → Option Nat} {μ : Mu} {n : Nat} {w : World}

theorem run_copy' {tD ty e : TypeId} {ts : List TypeId} {sz : Nat} (hu : P.underlying tD = some (.slice e)) (hz : szT P e = some sz) {a : Addr} {dl cap k : Nat} {x : Value} {rest : List Value} {cells : List Value} {w' : World}
    (hl : (Builtin.lenOf x).run P w = .ok k w) (hf : (Builtin.firstCells sz (Nat.min k dl) x).run P w = .ok cells.toArray w) (hst : (storeCells a cells).run P w = .ok () w') :
    (Builtin.copy_ ⟨tD :: ts⟩ ty ⟨.slice (some a) dl cap :: x :: rest⟩).run P w = .ok (.int .i64 (Nat.min k dl : Nat)) w' := by
  have e1 : (⟨tD :: ts⟩ : Array TypeId)[0]? = some tD := rfl
  have e3 : (⟨.slice (some a) dl cap :: x :: rest⟩ : Array Value)[0]? = some (.slice (some a) dl cap) := rfl
  have e4 : (⟨.slice (some a) dl cap :: x :: rest⟩ : Array Value)[1]? = some x := rfl
  unfold Builtin.copy_
  simp only [e1, e3, e4, Sem.run_bind, run_underlying hu, Result.andThen_ok, hl, szT_run hz, hf, hst]
  rfl

theorem copyA_run {h h' : AH} (hh : HRel gl μ h w) {ts : List TypeId} {ty : TypeId} {d d' x x' v : Value} {rest : List Value} (hr : copyA P h ts d x = some (v, h')) (hd : VRel μ h.next d d') (hx : VRel μ h.next x x') :
    Went gl μ h w ((Builtin.copy_ ⟨ts⟩ ty ⟨d' :: x' :: rest⟩).run P w) v h' := by
  unfold copyA at hr
  split at hr
  · rename_i tD ts
    split at hr
    · rename_i e hu
      split at hr
      · cases hr
      · rename_i sz hsz
        split at hr
        · rename_i b off dl c
          obtain ⟨hb, o', rfl, ho⟩ := hd.slice
          -- writing, wherever nothing at all is written
          have hstore : ∀ {vs us : List Value} {h2 : AH}, writeA h b off vs = some h2 → LRel μ h.next vs us → us.length ≤ dl * sz →
              ∃ w', (storeCells ⟨(μ b).b, o', none⟩ us).run P w = .ok () w' ∧ HRel gl μ h2 w' ∧ Fr μ h w μ h2 w' ∧ h2.next = h.next := by
            intro vs us h2 hw hrel hle
            obtain ⟨w', g1, g2⟩ := writeA_run (P := P) hh hw hrel
            rcases ho with ho | ⟨h0, _, _⟩
            · subst ho; exact ⟨w', g1, g2⟩
            · subst h0
              have : us = [] := List.eq_nil_of_length_eq_zero (by omega)
              subst this
              exact ⟨w', g1, g2⟩
          split at hr
          · rename_i s
            rw [hx.string]
            cases hz1 : Nat.beq sz 1 with
            | false => rw [hz1] at hr; cases hr
            | true =>
              rw [hz1] at hr
              simp only [cond_true] at hr
              have hz1' := Nat.eq_of_beq_eq_true hz1
              subst hz1'
              split at hr
              · rename_i h2 hw
                cases hr
                have hlen : (byteCells s.data.toList).length = s.data.toList.length := by unfold byteCells; rw [List.length_map]
                obtain ⟨w', g1, g2, g3, g4⟩ := hstore hw ((byteCells_get (μ := μ) (n := h.next) s.data.toList).take dl) (by rw [List.length_take]; omega)
                have hl : (Builtin.lenOf (.string s)).run P w = .ok s.data.toList.length w := rfl
                have hf : (Builtin.firstCells 1 (Nat.min s.data.toList.length dl) (.string s)).run P w = .ok ((byteCells s.data.toList).take dl).toArray w := by
                  simp only [Builtin.firstCells, Sem.run_pure]
                  congr 1
                  apply Array.ext'
                  rw [extract_eq]
                  simp only [byteCells, Array.toList_map, List.drop_zero, Nat.sub_zero, List.map_take]
                  apply List.ext_getElem?
                  intro j
                  rw [List.getElem?_take, List.getElem?_take]
                  by_cases h1 : j < dl
                  · rw [if_pos h1]
                    by_cases h2 : j < s.data.toList.length
                    · rw [if_pos (Nat.lt_min.2 ⟨h2, h1⟩)]
                    · rw [if_neg (fun h => h2 (Nat.lt_min.1 h).1), List.getElem?_eq_none (by rw [List.length_map]; omega)]
                  · rw [if_neg h1, if_neg (fun h => h1 (Nat.lt_min.1 h).2)]
                refine ⟨_, _, _, run_copy' hu hsz hl hf g1, g2, g3, ?_⟩
                exact .plain _ rfl
              · cases hr
          · rename_i c2
            obtain ⟨rfl, _, rfl⟩ := hx.nilSlice
            cases hr
            have hl : (Builtin.lenOf (.slice none 0 0)).run P w = .ok 0 w := rfl
            have h0 : Nat.min 0 dl = 0 := Nat.zero_min dl
            refine .same hh ?_ (.plain _ rfl)
            have := run_copy' (P := P) (w := w) (ty := ty) (ts := ts) (rest := rest) (a := ⟨(μ b).b, o', none⟩) (dl := dl) (cap := dl + c / 2 + c % 2 * (μ b).s) (cells := []) (w' := w) hu hsz hl rfl rfl
            rw [h0] at this
            exact this
          · rename_i b2 off2 k c2
            obtain ⟨hb2, o2, rfl, ho2⟩ := hx.slice
            split at hr
            · cases hr
            · rename_i cs hcs
              obtain ⟨ds, q1, q2, q3⟩ := readA_run hh hcs
              have hl : ∀ a c, (Builtin.lenOf (.slice a k c)).run P w = .ok k w := fun _ _ => rfl
              have hf : (Builtin.firstCells sz (Nat.min k dl) (.slice (some ⟨(μ b2).b, o2, none⟩) k (k + c2 / 2 + c2 % 2 * (μ b2).s))).run P w = .ok ds.toArray w := by
                rcases ho2 with ho2 | ⟨h0, _, _⟩
                · subst ho2
                  exact run_firstCells_some w sz _ _ _ _ ds q1 q3
                · subst h0
                  have h00 : Nat.min 0 dl = 0 := Nat.zero_min dl
                  rw [h00] at q1 ⊢
                  have : ds = [] := List.eq_nil_of_length_eq_zero (by rw [q1, Nat.zero_mul])
                  subst this
                  simp [Builtin.firstCells, loadCells, loadCellsFrom]
              cases hn0 : Nat.beq (Nat.min k dl) 0 with
              | true =>
                rw [hn0] at hr
                cases hr
                have h0 := Nat.eq_of_beq_eq_true hn0
                have : ds = [] := List.eq_nil_of_length_eq_zero (by rw [q1, h0, Nat.zero_mul])
                subst this
                refine .same hh ?_ (.plain _ rfl)
                have := run_copy' (P := P) (w := w) (ty := ty) (ts := ts) (rest := rest) (a := ⟨(μ b).b, o', none⟩) (dl := dl) (cap := dl + c / 2 + c % 2 * (μ b).s) (cells := []) (w' := w) hu hsz (hl _ _) hf rfl
                rw [h0] at this
                exact this
              | false =>
                rw [hn0] at hr
                simp only [cond_false] at hr
                split at hr
                · rename_i h2 hw
                  cases hr
                  obtain ⟨w', g1, g2, g3, g4⟩ := hstore hw q2 (by rw [q1]; exact Nat.mul_le_mul_right _ (Nat.min_le_right _ _))
                  exact ⟨_, _, _, run_copy' hu hsz (hl _ _) hf g1, g2, g3, .plain _ rfl⟩
                · cases hr
          · cases hr
        · cases hr
    · cases hr
  · cases hr

/-- An operation has gone as the abstract one: what it leaves in its temporary, and the heap. -/
def WentN (gl : Nat → Option Nat) (μ : Mu) (h : AH) (w : World) (r : Result Next) (v : Value) (h' : AH) : Prop :=
  ∃ c w' μ', (r = .ok (.value c) w' ∨ (r = .ok .skip w' ∧ c = undef)) ∧ HRel gl μ' h' w' ∧ Fr μ h w μ' h' w' ∧ VRel μ' h'.next v c

theorem Went.next {h h' : AH} {s : Sem Value} {v : Value} (a : Went gl μ h w (s.run P w) v h') : WentN gl μ h w ((do pure (Next.value (← s)) : Sem Next).run P w) v h' := by
  obtain ⟨c, w', μ', h1, h2, h3, h4⟩ := a
  refine ⟨c, w', μ', .inl ?_, h2, h3, h4⟩
  simp only [Sem.run_bind, h1, Result.andThen_ok, Sem.run_pure]

theorem evL_rel {h : AH} {ev : Operand → Option Value} {ρ : Operand → Value} (hT : ∀ x v, ev x = some v → VRel μ n v (ρ x)) : ∀ (xs : List Operand) (vs : List Value), evL ev xs = some vs → LRel μ n vs (xs.map ρ) := by
  intro xs
  induction xs with
  | nil => intro vs hv; cases hv; exact .nil
  | cons x xs ih =>
    intro vs hv
    unfold evL at hv
    split at hv
    · rename_i v h1
      split at hv
      · rename_i vs' h2
        cases hv
        exact .cons (hT _ _ h1) (ih _ h2)
      · cases hv
    · cases hv

theorem evP_rel {ev : Operand → Option Value} {ρ : Operand → Value} (hT : ∀ x v, ev x = some v → VRel μ n v (ρ x)) : ∀ (xs : List (Nat × Operand)) (vs : List (Nat × Value)), evP ev xs = some vs → PRel μ n vs (xs.map fun x => (x.1, ρ x.2)) := by
  intro xs
  induction xs with
  | nil => intro vs hv; cases hv; exact .nil
  | cons x xs ih =>
    intro vs hv
    unfold evP at hv
    split at hv
    · rename_i v h1
      split at hv
      · rename_i vs' h2
        cases hv
        exact .cons _ _ _ _ _ (hT _ _ h1) (ih _ h2)
      · cases hv
    · cases hv

theorem evO_rel {ev : Operand → Option Value} {ρ : Operand → Value} (hT : ∀ x v, ev x = some v → VRel μ n v (ρ x)) {x : Option Operand} {v : Option Value} (h : evO ev x = some v) : ORel μ n v (x.map ρ) := by
  unfold evO at h
  split at h
  · cases h
    exact ⟨fun u hu => (by cases hu), fun _ => rfl⟩
  · rename_i y
    split at h
    · rename_i u hu
      cases h
      exact ⟨fun u' hu' => by cases hu'; exact ⟨_, rfl, hT _ _ hu⟩, fun hn => by cases hn⟩
    · cases h

theorem builtinA_run {h h' : AH} (hh : HRel gl μ h w) {b : Builtin} {ts : List TypeId} {ty : TypeId} {cs : Array Bool} {args args' : List Value} {v : Value} (hr : builtinA P h b ts args = some (v, h')) (ha : LRel μ h.next args args') :
    WentN gl μ h w ((builtin b ⟨ts⟩ ty cs ⟨args'⟩).run P w) v h' := by
  have two : ∀ {a b : Value} {r : List Value}, args = a :: b :: r → ∃ a' b' r', args' = a' :: b' :: r' ∧ VRel μ h.next a a' ∧ VRel μ h.next b b' ∧ LRel μ h.next r r' := by
    intro a b r he
    subst he
    cases args' with
    | nil => have := ha.1; simp at this
    | cons a' t =>
      cases t with
      | nil => have := ha.1; simp at this
      | cons b' t => exact ⟨a', b', t, rfl, ha.head, ha.tail.head, ha.tail.tail⟩
  unfold builtinA at hr
  split at hr
  · split at hr
    · rename_i x xs
      split at hr
      · rename_i u hu
        cases hr
        cases args' with
        | nil => have := ha.1; simp at this
        | cons a' t =>
          obtain ⟨h1, h2⟩ := lenA_run (P := P) (ty := ty) (rest := xs) (rest' := t) hu hh ha.head
          exact Went.next (.same hh h1 h2)
      · cases hr
    · cases hr
  · split at hr
    · rename_i s x r
      obtain ⟨a', b', r', rfl, h1, h2, _⟩ := two rfl
      exact Went.next (appendA_run hh hr h1 h2)
    · cases hr
  · split at hr
    · rename_i s x r
      obtain ⟨a', b', r', rfl, h1, h2, _⟩ := two rfl
      exact Went.next (copyA_run hh hr h1 h2)
    · cases hr
  · split at hr
    · rename_i t ts'
      split at hr
      · rename_i e hu
        split at hr
        · rename_i a l c
          cases args' with
          | nil => have := ha.1; simp at this
          | cons a' t' =>
            have ht' : t' = [] := by have := ha.1; simp at this; exact this
            subst ht'
            cases hc : Nat.beq (c % 2) 0 with
            | false => rw [hc] at hr; cases hr
            | true =>
              rw [hc] at hr
              cases hr
              have hc0 : c % 2 = 0 := Nat.eq_of_beq_eq_true hc
              have ex : ∃ p, a' = .slice p l (l + c / 2) := by
                have hv := ha.head
                cases hv with
                | plain v hp =>
                  cases a with
                  | none =>
                    simp only [plain1, Bool.and_eq_true] at hp
                    have h1 := Nat.eq_of_beq_eq_true hp.1
                    have h2 := Nat.eq_of_beq_eq_true hp.2
                    subst h1 h2
                    exact ⟨_, rfl⟩
                  | some q => simp [plain1] at hp
                | slc b o l c hb => exact ⟨some ⟨(μ b).b, (μ b).o + o, none⟩, by rw [hc0]; simp⟩
                | slc0 b o o' hb ho => simp at hc0
              obtain ⟨p, rfl⟩ := ex
              refine Went.next (s := Builtin.cap_ ⟨t :: ts'⟩ ty #[.slice p l (l + c / 2)]) (.same hh (c := .int .i64 (l + c / 2 : Nat)) ?_ (.plain _ rfl))
              unfold Builtin.cap_
              simp [run_underlying hu]
              rfl
        · cases hr
      · cases hr
    · cases hr
  · split at hr
    · cases hr
      cases args' with
      | nil => have := ha.1; simp at this
      | cons a' t' =>
        have ht' : t' = [] := by have := ha.1; simp at this; exact this
        subst ht'
        rw [ha.head.nilSlice.1]
        exact Went.next (s := Builtin.unsafeSliceData_ ⟨ts⟩ ty #[.slice none 0 0]) (.same hh rfl (.plain _ rfl))
    · cases hr
  · split at hr
    · rename_i t0 ts0
      split at hr
      · cases hr
        obtain ⟨a', b', r', rfl, h1, h2, h3⟩ := two rfl
        have hr' : r' = [] := List.eq_nil_of_length_eq_zero (by rw [← h3.1]; rfl)
        subst hr'
        rw [h1.nilPointer, h2.int]
        refine Went.next (s := Builtin.unsafeString_ ⟨t0 :: ts0⟩ ty #[.pointer none, .int _ 0]) (.same hh (c := .string ⟨⟨[]⟩⟩) ?_ (.plain _ rfl))
        rfl
      · cases hr
    · cases hr
  · split at hr
    · cases hr
      obtain ⟨a', b', r', rfl, h1, h2, h3⟩ := two rfl
      have hr' : r' = [] := List.eq_nil_of_length_eq_zero (by rw [← h3.1]; rfl)
      subst hr'
      rw [h1.int, h2.int]
      exact Went.next (.same hh (run_max_int2 w _ _ _ _ _ _) (.plain _ rfl))
    · cases hr
  · split at hr
    · cases hr
      obtain ⟨a', b', r', rfl, h1, h2, h3⟩ := two rfl
      have hr' : r' = [] := List.eq_nil_of_length_eq_zero (by rw [← h3.1]; rfl)
      subst hr'
      rw [h1.int, h2.int]
      exact Went.next (.same hh (run_min_int2 w _ _ _ _ _ _) (.plain _ rfl))
    · cases hr
  · cases hr

set_option maxHeartbeats 4000000 in
theorem opA_run {h h' : AH} (hh : HRel gl μ h w) {ev : Operand → Option Value} {ρ : Operand → Value} (hT : ∀ x v, ev x = some v → VRel μ h.next v (ρ x)) {o : Oper} {v : Value} (hr : opA P ev h o.op = some (v, h')) :
    WentN gl μ h w ((execOp ρ o).run P w) v h' := by
  have same : ∀ {v c : Value}, (execOp ρ o).run P w = .ok (.value c) w → VRel μ h.next v c → WentN gl μ h w ((execOp ρ o).run P w) v h := fun e hv => ⟨_, w, μ, .inl e, hh, .refl _ _ _, hv⟩
  obtain ⟨dst, op, type, pos, after, guard⟩ := o
  cases op
  case move x =>
    simp only [opA] at hr
    split at hr
    · rename_i u hu; cases hr; exact same rfl (hT _ _ hu)
    · cases hr
  case assign x =>
    simp only [opA] at hr
    split at hr
    · rename_i u hu; cases hr; exact same rfl (hT _ _ hu)
    · cases hr
  case pick c a b =>
    simp only [opA] at hr
    split at hr
    · rename_i hc
      have e := (hT _ _ hc).bool
      split at hr
      · rename_i u hu
        cases hr
        refine same ?_ (hT _ _ hu)
        simp only [execOp, e, Sem.run_bind, asBool, Sem.run_pure, Result.andThen_ok, if_true]
      · cases hr
    · rename_i hc
      have e := (hT _ _ hc).bool
      split at hr
      · rename_i u hu
        cases hr
        refine same ?_ (hT _ _ hu)
        simp only [execOp, e, Sem.run_bind, asBool, Sem.run_pure, Result.andThen_ok, Bool.false_eq_true, if_false]
      · cases hr
    · cases hr
  case alloc t =>
    simp only [opA] at hr
    split at hr
    · rename_i z hz
      cases hr
      exact Went.next (allocA_run hh hz)
    · cases hr
  case box t x =>
    simp only [opA] at hr
    split at hr
    · rename_i u hu
      cases hr
      exact Went.next (boxA_run hh (hT _ _ hu))
    · cases hr
  case build t ps =>
    simp only [opA] at hr
    split at hr
    · rename_i l hl
      split at hr
      · rename_i u hu
        cases hr
        obtain ⟨c, h1, h2⟩ := buildA_run (P := P) (w := w) hu (evP_rel hT _ _ hl) (pa := ps.map fun (i, x) => (i, ρ x)) (by rw [Array.toList_map])
        exact Went.next (.same hh h1 h2)
      · cases hr
    · cases hr
  case buildSlice t len ps =>
    simp only [opA] at hr
    split at hr
    · rename_i l hl
      have hw := buildSliceA_run (pa := ps.map fun (i, x) => (i, ρ x)) hh hr (evP_rel hT _ _ hl) (by rw [Array.toList_map])
      exact hw.next
    · cases hr
  case load t a =>
    simp only [opA] at hr
    split at hr
    · rename_i b off ha
      split at hr
      · rename_i u hu
        cases hr
        obtain ⟨hb, e⟩ := (hT _ _ ha).pointer
        obtain ⟨c, h1, h2⟩ := loadA_run (P := P) hh hu
        refine Went.next (s := Instr.loadAt t (ρ a)) (.same hh ?_ h2)
        rw [e]
        unfold Instr.loadAt Instr.sureAddr
        simp only [Sem.run_bind, Sem.run_pure, Result.andThen_ok, h1]
      · cases hr
    · cases hr
  case store t a x =>
    simp only [opA] at hr
    split at hr
    · rename_i b off ha
      split at hr
      · rename_i u hu
        split at hr
        · rename_i h2 hs
          cases hr
          obtain ⟨hb, e⟩ := (hT _ _ ha).pointer
          obtain ⟨w', g1, g2, g3, g4⟩ := storeA_run (P := P) hh hs (hT _ _ hu)
          refine ⟨undef, w', μ, .inr ⟨?_, rfl⟩, g2, g3, .undef⟩
          simp only [execOp, e, Instr.storeAt, Instr.sureAddr, Sem.run_bind, Sem.run_pure, Result.andThen_ok, g1]
        · cases hr
      · cases hr
    · cases hr
  case nilCheck x =>
    simp only [opA] at hr
    split at hr
    · rename_i a ha
      cases hr
      have hv := hT _ _ ha
      have : ∃ a', ρ x = .pointer (some a') := by
        generalize ρ x = c at hv
        cases hv with
        | plain v hv => simp [plain1] at hv
        | ptr b o hb => exact ⟨_, rfl⟩
      obtain ⟨a', e⟩ := this
      refine same ?_ hv
      simp only [execOp, e]; rfl
    · rename_i f a b ha
      cases hr
      have hv := hT _ _ ha
      obtain ⟨f', a', e, _⟩ := hv.funcI
      refine same ?_ hv
      simp only [execOp, e]; rfl
    · cases hr
  case binOp op t x y yt =>
    simp only [opA] at hr
    split at hr
    · rename_i a ha
      split at hr
      · rename_i b hb
        split at hr
        · rename_i u hu
          cases hr
          obtain ⟨h1, h2⟩ := binA_run (P := P) (w := w) hu (hT _ _ ha) (hT _ _ hb)
          exact Went.next (.same hh h1 h2)
        · cases hr
      · cases hr
    · cases hr
  case unOp op t x =>
    simp only [opA] at hr
    split at hr
    · rename_i a ha
      split at hr
      · rename_i u hu
        cases hr
        obtain ⟨h1, h2⟩ := unA_run (P := P) (w := w) hu (hT _ _ ha)
        exact Went.next (.same hh h1 h2)
      · cases hr
    · cases hr
  case convert s d x =>
    simp only [opA] at hr
    split at hr
    · rename_i u hu
      exact Went.next (convA_run hh hr (hT _ _ hu))
    · cases hr
  case makeInterface t x =>
    simp only [opA] at hr
    split at hr
    · rename_i u hu
      split at hr
      · cases hr
      · rename_i d hni hd
        cases ht : Nat.ble gT t with
        | true => rw [ht] at hr; cases hr
        | false =>
        rw [ht] at hr
        cases hr
        refine Went.next (s := Instr.makeInterface t (ρ x)) (.same hh ?_ (.iface t _ _ ht (hT _ _ hu)))
        unfold Instr.makeInterface
        simp only [Sem.run_bind, run_underlying hd, Result.andThen_ok]
        cases d <;> first | rfl | exact absurd rfl (hni _)
      · cases hr
    · cases hr
  case makeFunc fn first cap =>
    simp only [opA] at hr
    split at hr
    · rename_i l hl
      split at hr
      · rename_i l' hl'
        cases hr
        have h1 := evL_rel (h := h) hT _ _ hl
        have h2 := evL_rel (h := h) hT _ _ hl'
        refine Went.next (s := Instr.makeFunc fn (first.map ρ) (cap.map ρ)) (.same (c := .func fn (first.map ρ) (cap.map ρ)) hh rfl ?_)
        rw [← Array.toList_map] at h1 h2
        exact .func fn _ _ _ _ h1.1 h1.2 h2.1 h2.2
      · cases hr
    · cases hr
  case makeSlice t l c =>
    simp only [opA] at hr
    split at hr
    · rename_i a ha
      split at hr
      · rename_i b hb
        exact Went.next (makeSliceA_run hh hr (hT _ _ ha) (hT _ _ hb))
      · cases hr
    · cases hr
  case slice t x lo hi mx =>
    simp only [opA] at hr
    split at hr
    · rename_i u hu
      split at hr
      · rename_i l hl
        split at hr
        · rename_i r hr'
          split at hr
          · rename_i m hm
            split at hr
            · rename_i y hy
              cases hr
              obtain ⟨c, h1, h2⟩ := sliceA_run (P := P) (w := w) hy (hT _ _ hu) (evO_rel hT hl) (evO_rel hT hr') (evO_rel hT hm)
              exact Went.next (.same hh h1 h2)
            · cases hr
          · cases hr
        · cases hr
      · cases hr
    · cases hr
  case fieldAddr t x i =>
    simp only [opA] at hr
    split at hr
    · rename_i u hu
      split at hr
      · rename_i y hy
        cases hr
        obtain ⟨c, h1, h2⟩ := fieldAddrA_run (P := P) (w := w) hy (hT _ _ hu)
        exact Went.next (.same hh h1 h2)
      · cases hr
    · cases hr
  case field t x i =>
    simp only [opA] at hr
    split at hr
    · rename_i u hu
      split at hr
      · rename_i y hy
        cases hr
        obtain ⟨c, h1, h2⟩ := fieldA_run (P := P) (w := w) hy (hT _ _ hu)
        exact Went.next (.same hh h1 h2)
      · cases hr
    · cases hr
  case indexAddr t x i =>
    simp only [opA] at hr
    split at hr
    · rename_i u hu
      split at hr
      · rename_i j hj
        split at hr
        · rename_i y hy
          cases hr
          obtain ⟨c, h1, h2⟩ := indexAddrA_run (P := P) (w := w) hy (hT _ _ hu) (hT _ _ hj)
          exact Went.next (.same hh h1 h2)
        · cases hr
      · cases hr
    · cases hr
  case index t x i =>
    simp only [opA] at hr
    split at hr
    · rename_i u hu
      split at hr
      · rename_i j hj
        split at hr
        · rename_i y hy
          cases hr
          obtain ⟨c, h1, h2⟩ := indexA_run (P := P) (w := w) hy (hT _ _ hu) (hT _ _ hj)
          exact Went.next (.same hh h1 h2)
        · cases hr
      · cases hr
    · cases hr
  case makeMap t r =>
    cases r with
    | none =>
      simp only [opA] at hr
      cases hr
      exact Went.next (s := Instr.makeMap t none) (makeMap_went hh)
    | some x =>
      simp only [opA] at hr
      split at hr
      · rename_i kt e hu
        split at hr
        · rename_i k i hx
          cases hr
          refine Went.next (s := Instr.makeMap t (some (ρ x))) ?_
          have e1 : (Instr.makeMap t (some (ρ x))).run P w = .ok (.map (some w.heap.size)) (w.alloc (.map #[] 0)) := by
            rw [(hT _ _ hx).int]
            unfold Instr.makeMap
            simp only [Sem.run_bind, run_underlying hu, asInt, Result.andThen_ok, Sem.run_pure]
            rfl
          rw [e1]
          exact makeMap_went hh
        · cases hr
      · cases hr
  case lookup t x i ok =>
    simp only [opA] at hr
    split at hr
    · rename_i m hm
      split at hr
      · rename_i k hk
        split at hr
        · rename_i u hu
          cases hr
          obtain ⟨c, h1, h2⟩ := lookupA_run (P := P) hh hu (hT _ _ hm) (hT _ _ hk)
          exact Went.next (.same hh h1 h2)
        · cases hr
      · cases hr
    · cases hr
  case mapUpdate t x i y =>
    simp only [opA] at hr
    split at hr
    · rename_i m hm
      split at hr
      · rename_i k hk
        split at hr
        · rename_i u hu
          split at hr
          · rename_i h2 hs
            cases hr
            obtain ⟨w', g1, g2, g3⟩ := mapPutA_run (P := P) hh hs (hT _ _ hm) (hT _ _ hk) (hT _ _ hu)
            refine ⟨undef, w', μ, .inr ⟨?_, rfl⟩, g2, g3, .undef⟩
            simp only [execOp, Sem.run_bind, g1, Result.andThen_ok, Sem.run_pure]
          · cases hr
        · cases hr
      · cases hr
    · cases hr
  case extract x i =>
    simp only [opA] at hr
    split at hr
    · rename_i vs hvs
      split at hr
      · rename_i u hu
        cases hr
        obtain ⟨ys, e, hl⟩ := (hT _ _ hvs).tupleI
        obtain ⟨y, hy, hv⟩ := hl.get hu
        refine Went.next (s := Instr.extract (ρ x) i) (.same hh ?_ hv)
        rw [e]
        unfold Instr.extract
        rw [Array.getElem?_toList] at hy
        simp only [hy, Sem.run_pure]
      · cases hr
    · cases hr
  case call c =>
    obtain ⟨callee, args, ts⟩ := c
    cases callee
    case builtin b =>
      simp only [opA] at hr
      split at hr
      · rename_i l hl
        have h1 := evL_rel (h := h) hT _ _ hl
        have e : (⟨args.toList.map ρ⟩ : Array Value) = args.map ρ := by apply Array.ext'; simp
        simp only [execOp, resolve, Sem.run_bind, Sem.run_pure, Result.andThen_ok, invoke]
        rw [← e]
        exact builtinA_run hh hr h1
      · cases hr
    all_goals cases hr
  all_goals cases hr

end Go.Proofs.YtachednafdmmaaaDoor.AI
