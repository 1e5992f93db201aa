/- The abstract interpreter: new rows: variables, structs, slices that are made. -/
import Derived.Test.YtachednafdmmaaaDoorAIg
import Derived.Laws.Tables
import Derived.Great.BuildSlice
namespace Go.Proofs.YtachednafdmmaaaDoor.AI
open Go
set_option linter.unusedVariables false
set_option linter.unusedSimpArgs false

variable {P : Program} {gl : Nat → Option Nat} {μ : Mu} {n : Nat} {w : World}

/-- An operation has gone as the abstract one: a value, and the heap that goes with it. -/
def Went (gl : Nat → Option Nat) (μ : Mu) (h : AH) (w : World) (r : Result Value) (v : Value) (h' : AH) : Prop :=
  ∃ c w' μ', r = .ok c w' ∧ HRel gl μ' h' w' ∧ Fr μ h w μ' h' w' ∧ VRel μ' h'.next v c

theorem Went.same {h : AH} {v c : Value} {r : Result Value} (hh : HRel gl μ h w) (hr : r = .ok c w) (hv : VRel μ h.next v c) : Went gl μ h w r v h :=
  ⟨c, w, μ, hr, hh, .refl _ _ _, hv⟩

theorem alloc_went {h : AH} (hh : HRel gl μ h w) {cs : List Value} {C : Array Value} (e : TypeId) (z : Nat) (hc : LRel μ h.next cs C.toList) :
    Went gl μ h w (.ok (.pointer (some ⟨w.heap.size, 0, none⟩)) (w.alloc (.cells C e))) (.pointer (some ⟨h.next, 0, none⟩)) (h.add (.row false z cs)) := by
  have := hh.alloc e (0, 0) z 0 cs C (by have := hc.1; simp only [Array.length_toList] at this; omega)
    (fun j v hj => by obtain ⟨y, hy, hv⟩ := hc.get hj; rw [Array.getElem?_toList] at hy; exact ⟨y, hy, hv⟩) (.inl rfl)
  refine ⟨_, _, _, rfl, this.1, this.2, ?_⟩
  have := VRel.ptr (μ := upd μ h.next ⟨w.heap.size, 0, 0⟩) (n := (h.add (.row false z cs)).next) h.next 0 (by rw [AH.next_add]; omega)
  rw [upd_same] at this
  exact this

theorem allocA_run {h : AH} (hh : HRel gl μ h w) {t : TypeId} {z : Value} (hz : zeroA P t = some z) :
    Went gl μ h w ((Instr.alloc t true (.tuple #[])).run P w) (.pointer (some ⟨h.next, 0, none⟩)) (h.add (.row false 1 z.cells.toList)) := by
  obtain ⟨h1, h2⟩ := zeroA_run (P := P) (μ := μ) (n := h.next) (w := w) hz
  have e : (Instr.alloc t true (.tuple #[])).run P w = .ok (.pointer (some ⟨w.heap.size, 0, none⟩)) (w.alloc (.cells z.cells t)) := by
    unfold Instr.alloc
    simp only [Sem.run_bind, h1, Result.andThen_ok, newVar, newRow, run_newObj]; rfl
  rw [e]
  exact alloc_went hh t 1 h2.cells

theorem boxA_run {h : AH} (hh : HRel gl μ h w) {t : TypeId} {v c : Value} (hv : VRel μ h.next v c) :
    Went gl μ h w ((Instr.box t c).run P w) (.pointer (some ⟨h.next, 0, none⟩)) (h.add (.row false 1 v.cells.toList)) := by
  have e : (Instr.box t c).run P w = .ok (.pointer (some ⟨w.heap.size, 0, none⟩)) (w.alloc (.cells c.cells t)) := by
    unfold Instr.box
    simp only [Sem.run_bind, newVar, newRow, run_newObj, Result.andThen_ok]; rfl
  rw [e]
  exact alloc_went hh t 1 hv.cells

/-- Filling in one part. -/
theorem fold_get : ∀ (l : List Value) (k off : Nat) (cs : Array Value), off + k + l.length ≤ cs.size → ∀ i : Nat,
    ((l.zipIdx k).foldl (fun (cs : Array Value) (x : Value × Nat) => cs.setIfInBounds (off + x.2) x.1) cs)[i]? = if off + k ≤ i ∧ i < off + k + l.length then l[i - (off + k)]? else cs[i]? := by
  intro l
  induction l with
  | nil => intro k off cs _ i; rw [if_neg (by simp only [List.length_nil]; omega)]; rfl
  | cons v r ih =>
    intro k off cs h i
    simp only [List.length_cons] at h
    rw [List.zipIdx_cons, List.foldl_cons, ih (k + 1) off _ (by simp only [Array.size_setIfInBounds]; omega)]
    simp only [List.length_cons]
    by_cases hi : i = off + k
    · subst hi
      rw [if_neg (by omega), if_pos (by omega), Array.getElem?_setIfInBounds_self_of_lt (by omega), Nat.sub_self]
      rfl
    · by_cases h2 : off + (k + 1) ≤ i ∧ i < off + (k + 1) + r.length
      · rw [if_pos h2, if_pos (by omega)]
        have : i - (off + k) = (i - (off + (k + 1))) + 1 := by omega
        rw [this, List.getElem?_cons_succ]
      · rw [if_neg h2, if_neg (by omega), Array.getElem?_setIfInBounds_ne (by omega)]

theorem fold_splice (vs cs : Array Value) (off : Nat) (h : off + vs.size ≤ cs.size) :
    (vs.zipIdx.foldl (fun cs (c, j) => cs.setIfInBounds (off + j) c) cs).toList = splice cs.toList off vs.toList := by
  apply List.ext_getElem?
  intro i
  rw [splice_get (by simpa using h)]
  rw [← Array.foldl_toList, Array.toList_zipIdx]
  have := fold_get vs.toList 0 off cs (by simpa using h) i
  rw [Array.getElem?_toList, this]
  simp only [Nat.add_zero, Array.length_toList, Array.getElem?_toList]

inductive PRel (μ : Mu) (n : Nat) : List (Nat × Value) → List (Nat × Value) → Prop where
  | nil : PRel μ n [] []
  | cons (i : Nat) (v c : Value) (r r' : List (Nat × Value)) : VRel μ n v c → PRel μ n r r' → PRel μ n ((i, v) :: r) ((i, c) :: r')

theorem fillA_run {place place' : Nat → Option (Nat × Nat)} (hp : ∀ i x, place i = some x → place' i = some x) {ps ps' : List (Nat × Value)} (hps : PRel μ n ps ps') : ∀ {cs r : List Value} {C : Array Value},
    fillA place cs ps = some r → LRel μ n cs C.toList → ∃ R, Instr.fill place' C ps' = some R ∧ LRel μ n r R.toList := by
  induction hps with
  | nil => intro cs r C h hc; cases h; exact ⟨C, rfl, hc⟩
  | cons i v c q q' hv hq ih =>
    intro cs r C h hc
    unfold fillA at h
    split at h
    · cases h
    · rename_i off size hpl
      cases hb : Nat.beq v.cells.toList.length size && Nat.ble (off + size) cs.length with
      | false => rw [hb] at h; cases h
      | true =>
        rw [hb] at h
        simp only [cond_true] at h
        simp only [Bool.and_eq_true] at hb
        have h1 := Nat.eq_of_beq_eq_true hb.1
        have h2 := Nat.le_of_ble_eq_true hb.2
        have hl := hv.cells.1
        have hcl := hc.1
        simp only [Array.length_toList] at hl hcl h1
        have h3 : c.cells.size = size := by rw [← hl]; exact h1
        have hs : off + c.cells.size ≤ C.size := by rw [h3, ← hcl]; exact h2
        unfold Instr.fill
        rw [hp _ _ hpl]
        dsimp only
        rw [if_neg (by rw [h3]; simp only [ne_eq, not_true_eq_false, decide_false, Bool.false_or, decide_eq_true_eq]; omega)]
        refine ih h ?_
        rw [fold_splice _ _ _ hs]
        exact hc.splice off hv.cells

theorem places_get (P : Program) : ∀ (fs : List Field), allSz P fs = true → ∃ places, fs.mapM (fun f => (P.info? f.type).map fun i => (f.offset, i.size)) = some places ∧
    ∀ i x, placeF P fs i = some x → places[i]? = some x := by
  intro fs
  induction fs with
  | nil => intro _; exact ⟨[], rfl, fun i x h => by simp [placeF] at h⟩
  | cons f fs ih =>
    intro h
    simp only [allSz, Bool.and_eq_true] at h
    obtain ⟨ps, h1, h2⟩ := ih h.2
    have hsz := h.1
    unfold szT at hsz
    split at hsz
    · rename_i i hi
      refine ⟨(f.offset, i.size) :: ps, by simp [List.mapM_cons, hi, h1], fun j x hj => ?_⟩
      cases j with
      | zero =>
        unfold placeF szT at hj
        simp only [List.getElem?_cons_zero, hi] at hj
        exact hj
      | succ j =>
        have hj' : placeF P fs j = some x := by
          unfold placeF at hj ⊢
          simp only [List.getElem?_cons_succ] at hj
          exact hj
        exact h2 j x hj'
    · cases hsz

theorem buildA_run {t : TypeId} {ps ps' : List (Nat × Value)} {v : Value} (h : buildA P t ps = some v) (hp : PRel μ n ps ps') {pa : Array (Nat × Value)} (hpa : pa.toList = ps') :
    ∃ c, (Instr.build t pa).run P w = .ok c w ∧ VRel μ n v c := by
  unfold buildA at h
  split at h
  · cases h
  · rename_i z hz
    have hz0 := hz
    have hz1 := (zeroA_run (P := P) (μ := μ) (n := n) (w := w) hz).2
    unfold zeroA at hz
    split at hz
    · rename_i it hit
      split at hz
      · rename_i z' hzz
        have hzeq : z' = z := by
          cases hq : plainV z' with
          | false => rw [hq] at hz; cases hz
          | true => rw [hq] at hz; cases hz; rfl
        subst hzeq
        split at h
        · rename_i fs hu
          cases ha : allSz P fs.toList with
          | false => rw [ha] at h; cases h
          | true =>
            rw [ha] at h
            simp only [cond_true] at h
            split at h
            · rename_i cs hf
              cases h
              obtain ⟨places, h1, h2⟩ := places_get P _ ha
              obtain ⟨R, hR, hrel⟩ := fillA_run (place' := fun i => places.toArray[i]?) (fun i x hx => by simpa using h2 i x hx) hp hf hz1.cells
              refine ⟨.agg R, ?_, .agg _ _ hrel.1 hrel.2⟩
              refine run_build w t pa R ?_
              unfold Program.built
              simp only [hit, hu, hzz, h1]
              rw [hpa]
              exact hR
            · cases h
        · rename_i k e hu
          split at h
          · rename_i sz hsz
            split at h
            · rename_i cs hf
              cases h
              unfold szT at hsz
              split at hsz
              · rename_i ie hie
                cases hsz
                obtain ⟨R, hR, hrel⟩ := fillA_run (place' := fun i => some (i * ie.size, ie.size)) (fun i x hx => hx) hp hf hz1.cells
                refine ⟨.agg R, ?_, .agg _ _ hrel.1 hrel.2⟩
                refine run_build w t pa R ?_
                unfold Program.built
                simp only [hit, hu, hzz, hie]
                rw [hpa]
                exact hR
              · cases hsz
            · cases h
          · cases h
        · cases h
      · cases hz
    · cases hz

theorem repA_length (k : Nat) (z : List Value) : (repA k z).length = k * z.length := by
  unfold repA
  induction k with
  | zero => simp
  | succ k ih => rw [List.replicate_succ, List.flatten_cons, List.length_append, ih, Nat.add_mul]; omega

theorem repA_get (z : List Value) (hz : 0 < z.length) : ∀ (k i : Nat), (repA k z)[i]? = if i < k * z.length then z[i % z.length]? else none := by
  intro k
  induction k with
  | zero => intro i; simp [repA]
  | succ k ih =>
    intro i
    have e : repA (k + 1) z = z ++ repA k z := by simp [repA, List.replicate_succ]
    rw [e]
    by_cases h : i < z.length
    · rw [List.getElem?_append_left h, Nat.mod_eq_of_lt h, if_pos (by rw [Nat.add_mul]; omega)]
    · rw [List.getElem?_append_right (by omega), ih]
      have h1 : (i - z.length) % z.length = i % z.length := (Nat.mod_eq_sub_mod (by omega)).symm
      rw [h1]
      by_cases h2 : i - z.length < k * z.length
      · rw [if_pos h2, if_pos (by rw [Nat.add_mul]; omega)]
      · rw [if_neg h2, if_neg (by rw [Nat.add_mul]; omega)]

theorem made_eq (z : Array Value) (k : Nat) : (madeCells z (k * z.size)).toList = repA k z.toList := by
  apply List.ext_getElem?
  intro i
  by_cases hz : z.size = 0
  · have h1 : (madeCells z (k * z.size)).toList = [] := by
      apply List.eq_nil_of_length_eq_zero
      rw [Array.length_toList, size_madeCells, hz, Nat.mul_zero]
    have h2 : repA k z.toList = [] := by
      apply List.eq_nil_of_length_eq_zero
      rw [repA_length, Array.length_toList, hz, Nat.mul_zero]
    rw [h1, h2]
  · rw [repA_get _ (by simpa using Nat.pos_of_ne_zero hz), Array.getElem?_toList]
    simp only [Array.length_toList, Array.getElem?_toList]
    by_cases hi : i < k * z.size
    · rw [if_pos hi, Array.getElem?_eq_getElem (by rw [size_madeCells]; exact hi)]
      have hm : i % z.size < z.size := Nat.mod_lt _ (by omega)
      rw [Array.getElem?_eq_getElem hm]
      simp only [madeCells, Array.getElem_map, Array.getElem_range]
      rw [getElem!_pos z _ hm]
    · rw [if_neg hi, Array.getElem?_eq_none (by rw [size_madeCells]; omega)]

theorem repA_rel {z z' : List Value} (h : LRel μ n z z') (k : Nat) : LRel μ n (repA k z) (repA k z') := by
  induction k with
  | zero => exact .nil
  | succ k ih =>
    have e : ∀ z : List Value, repA (k + 1) z = z ++ repA k z := fun z => by simp [repA, List.replicate_succ]
    rw [e, e]
    exact h.append ih

/-- The slice of a row that has just been made. -/
theorem slice_went {h : AH} (hh : HRel gl μ h w) {cs : List Value} {C : Array Value} (e : TypeId) (z s l c c' : Nat) (hc : ∀ (j : Nat) (v : Value), cs[j]? = some v → ∃ c, C[j]? = some c ∧ VRel μ h.next v c)
    (hf : cs.length + s * z ≤ C.size) (hk : c' = l + c / 2 + c % 2 * s) :
    Went gl μ h w (.ok (.slice (some ⟨w.heap.size, 0, none⟩) l c') (w.alloc (.cells C e))) (.slice (some ⟨h.next, 0, none⟩) l c) (h.add (.row false z cs)) := by
  have := hh.alloc e (0, 0) z s cs C hf hc (.inl rfl)
  refine ⟨_, _, _, rfl, this.1, this.2, ?_⟩
  have := VRel.slcE (μ := upd μ h.next ⟨w.heap.size, 0, s⟩) (n := (h.add (.row false z cs)).next) (b := h.next) (o := 0) (l := l) (c := c) (k := c') (by rw [AH.next_add]; omega) (by rw [upd_same]; exact hk)
  rw [upd_same] at this
  exact this

theorem LRel.arr {cs : List Value} {C : Array Value} (h : LRel μ n cs C.toList) : ∀ (j : Nat) (v : Value), cs[j]? = some v → ∃ c, C[j]? = some c ∧ VRel μ n v c :=
  fun j v hj => by obtain ⟨y, hy, hv⟩ := h.get hj; rw [Array.getElem?_toList] at hy; exact ⟨y, hy, hv⟩

theorem zeroA_info {t : TypeId} {z : Value} (h : zeroA P t = some z) : ∃ i, P.info? t = some i ∧ i.zero = some z := by
  unfold zeroA at h
  split at h
  · rename_i i hi
    split at h
    · rename_i z' hz
      cases hp : plainV z' with
      | false => rw [hp] at h; cases h
      | true => rw [hp] at h; cases h; exact ⟨i, hi, hz⟩
    · cases h
  · cases h

theorem makeSliceA_run {h h' : AH} (hh : HRel gl μ h w) {t : TypeId} {l l' c c' v : Value} (hr : makeSliceA P h t l c = some (v, h')) (hl : VRel μ h.next l l') (hc : VRel μ h.next c c') :
    Went gl μ h w ((Instr.makeSlice t l' c').run P w) v h' := by
  unfold makeSliceA at hr
  split at hr
  · rename_i e hu
    split at hr
    · rename_i i hi
      split at hr
      · rename_i kl l kc c
        rw [hl.int, hc.int]
        split at hr
        · rename_i hb
          split at hr
          · rename_i z hz
            cases hq : Nat.beq z.cells.toList.length i.size with
            | false => rw [hq] at hr; cases hr
            | true =>
              rw [hq] at hr
              cases hr
              have hsz := Nat.eq_of_beq_eq_true hq
              obtain ⟨i', hi', hzi⟩ := zeroA_info hz
              rw [hi] at hi'
              cases hi'
              have hby : (i.bytes : Int) * c ≤ 281474976710656 := by
                have h1 : (i.bytes : Int) * c ≤ 65536 * c := Int.mul_le_mul_of_nonneg_right (by omega) (by omega)
                omega
              rw [run_make w t e i z hu hi hzi kl kc l c hb.1 hb.2.1 hby (by omega)]
              have hz1 := (zeroA_run (P := P) (μ := μ) (n := h.next) (w := w) hz).2
              have hmade : (madeCells z.cells (c.toNat * i.size)).toList = repA c.toNat z.cells.toList := by
                rw [← hsz, Array.length_toList]; exact made_eq _ _
              have hrel : LRel μ h.next (repA c.toNat z.cells.toList) (madeCells z.cells (c.toNat * i.size)).toList := by rw [hmade]; exact repA_rel hz1.cells _
              refine slice_went hh e i.size 0 _ _ _ hrel.arr ?_ ?_
              · have := hrel.1
                simp only [Array.length_toList] at this
                omega
              · omega
          · cases hr
        · cases hr
      · cases hr
    · cases hr
  · cases hr

theorem buildSliceA_run {h h' : AH} (hh : HRel gl μ h w) {t : TypeId} {len : Nat} {ps ps' : List (Nat × Value)} {v : Value} (hr : buildSliceA P h t len ps = some (v, h')) (hp : PRel μ h.next ps ps')
    {pa : Array (Nat × Value)} (hpa : pa.toList = ps') : Went gl μ h w ((Instr.buildSlice t len pa).run P w) v h' := by
  unfold buildSliceA at hr
  split at hr
  · rename_i e hu
    split at hr
    · rename_i sz hsz
      cases hs : Nat.ble (len * sz) 16777216 with
      | false => rw [hs] at hr; cases hr
      | true =>
        rw [hs] at hr
        simp only [cond_true] at hr
        have hsm := Nat.le_of_ble_eq_true hs
        split at hr
        · rename_i z hz
          cases hq : Nat.beq z.cells.toList.length sz with
          | false => rw [hq] at hr; cases hr
          | true =>
            rw [hq] at hr
            simp only [cond_true] at hr
            have hzs := Nat.eq_of_beq_eq_true hq
            split at hr
            · rename_i cs hf
              cases hr
              obtain ⟨i', hi', hzi⟩ := zeroA_info hz
              unfold szT at hsz
              rw [hi'] at hsz
              cases hsz
              have hz1 := (zeroA_run (P := P) (μ := μ) (n := h.next) (w := w) hz).2
              have hmade : (madeCells z.cells (len * i'.size)).toList = repA len z.cells.toList := by
                rw [← hzs, Array.length_toList]; exact made_eq _ _
              have hrel : LRel μ h.next (repA len z.cells.toList) (madeCells z.cells (len * i'.size)).toList := by rw [hmade]; exact repA_rel hz1.cells _
              obtain ⟨R, hR, hRr⟩ := fillA_run (place' := fun i => some (i * i'.size, i'.size)) (fun i x hx => hx) hp hf hrel
              have hrun : (Instr.buildSlice t len pa).run P w = .ok (.slice (some ⟨w.heap.size, 0, none⟩) len len) (w.alloc (.cells R e)) := by
                have hfill : Instr.fill (fun i => some (i * i'.size, i'.size)) (madeCells z.cells (len * i'.size)) pa.toList = some R := by rw [hpa]; exact hR
                have hsm' : ¬ (16777216 < len * i'.size) := by omega
                by_cases h0 : len * i'.size = 0
                · have hm0 : madeCells z.cells (len * i'.size) = #[] := by
                    apply Array.eq_empty_of_size_eq_zero; rw [size_madeCells, h0]
                  have hr0 : (Array.range (len * i'.size)).map (fun x => (#[] : Array Value)[x % (#[] : Array Value).size]!) = #[] := by
                    apply Array.eq_empty_of_size_eq_zero; simp [h0]
                  rw [hm0] at hfill
                  unfold Instr.buildSlice
                  simp only [Sem.run_bind, run_underlying hu, Result.andThen_ok, sizeOf, typeInfo, run_program, hi', Sem.run_pure]
                  rw [if_neg (by omega)]
                  simp only [Sem.run_bind, Sem.run_pure, Result.andThen_ok, if_pos h0, hr0]
                  simp only [hfill, newRow, Sem.run_bind, run_newObj, Result.andThen_ok, Sem.run_pure]
                  rfl
                · unfold Instr.buildSlice
                  simp only [Sem.run_bind, run_underlying hu, Result.andThen_ok, sizeOf, typeInfo, run_program, hi', Sem.run_pure]
                  rw [if_neg (by omega)]
                  simp only [Sem.run_bind, Sem.run_pure, Result.andThen_ok, if_neg h0, zeroValue, typeInfo, run_program, hi', hzi]
                  have hfill' := hfill
                  unfold madeCells at hfill'
                  simp only [hfill', newRow, Sem.run_bind, run_newObj, Result.andThen_ok, Sem.run_pure]
                  rfl
              rw [hrun]
              refine slice_went hh e i'.size 0 _ _ _ hRr.arr ?_ (by omega)
              have := hRr.1
              simp only [Array.length_toList] at this
              omega
            · cases hr
        · cases hr
    · cases hr
  · cases hr

end Go.Proofs.YtachednafdmmaaaDoor.AI
