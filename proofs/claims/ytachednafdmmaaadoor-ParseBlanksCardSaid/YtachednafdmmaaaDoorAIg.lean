/- The abstract interpreter: reading and writing rows. -/
import Derived.Test.YtachednafdmmaaaDoorAIf
import Derived.Laws.AppendOwn
import Derived.Laws.MakeOwn
import Derived.Laws.IdiomCopy
namespace Go.Proofs.YtachednafdmmaaaDoor.AI
open Go
set_option linter.unusedVariables false
set_option linter.unusedSimpArgs false

variable {P : Program} {gl : Nat → Option Nat} {μ : Mu} {n : Nat} {w : World}

theorem cell_row {B o : Nat} {C : Array Value} {e : TypeId} {fz : Nat × Nat} (h : w.heap[B]? = some (.cells C e fz)) : w.cell? ⟨B, o, none⟩ = C[o]? := by
  simp [World.cell?, h]
theorem frozen_row {B o : Nat} {C : Array Value} {e : TypeId} {fz : Nat × Nat} (h : w.heap[B]? = some (.cells C e fz)) : w.frozen? ⟨B, o, none⟩ = (decide (fz.1 ≤ o) && decide (o < fz.2)) := by
  obtain ⟨lo, hi⟩ := fz
  simp [World.frozen?, h]

theorem splice_length {cs vs : List Value} {off : Nat} (h : off + vs.length ≤ cs.length) : (splice cs off vs).length = cs.length := by
  unfold splice
  simp only [List.length_append, List.length_take, List.length_drop]
  omega

theorem splice_get {cs vs : List Value} {off : Nat} (h : off + vs.length ≤ cs.length) (j : Nat) : (splice cs off vs)[j]? = if off ≤ j ∧ j < off + vs.length then vs[j - off]? else cs[j]? := by
  unfold splice
  by_cases h1 : j < off
  · rw [List.getElem?_append_left (by rw [List.length_take]; omega), List.getElem?_take, if_pos h1, if_neg (by omega)]
  · rw [List.getElem?_append_right (by rw [List.length_take]; omega)]
    have e : (cs.take off).length = off := by rw [List.length_take]; omega
    rw [e]
    by_cases h2 : j < off + vs.length
    · rw [List.getElem?_append_left (by omega), if_pos ⟨by omega, h2⟩]
    · rw [List.getElem?_append_right (by omega), List.getElem?_drop, if_neg (by omega)]
      congr 1
      omega

/-- What lies in a row, where a reading of the abstract heap finds it. -/
theorem readA_run {h : AH} (hh : HRel gl μ h w) {b off k : Nat} {cs : List Value} (hr : readA h b off k = some cs) :
    ∃ ds : List Value, ds.length = k ∧ LRel μ h.next cs ds ∧ ∀ (j : Nat) (v : Value), ds[j]? = some v → w.cell? ((⟨(μ b).b, (μ b).o + off, none⟩ : Addr).add j) = some v := by
  rw [readA_def] at hr
  split at hr
  · rename_i ro z row hg
    cases hc : Nat.ble (off + k) row.length with
    | false => rw [hc] at hr; cases hr
    | true =>
      rw [hc] at hr
      cases hr
      have hle := Nat.le_of_ble_eq_true hc
      obtain ⟨C, e, fz, hra⟩ := hh.blk _ _ hg
      have hfit := hra.fits
      refine ⟨(C.toList.drop ((μ b).o + off)).take k, by rw [List.length_take, List.length_drop, Array.length_toList]; omega, ⟨by simp only [List.length_take, List.length_drop, Array.length_toList]; omega, ?_⟩, ?_⟩
      · intro i x y hx hy
        rw [List.getElem?_take] at hx hy
        split at hx
        · rename_i hi
          rw [if_pos hi] at hy
          rw [List.getElem?_drop] at hx hy
          obtain ⟨c, h1, h2⟩ := hra.cells _ _ hx
          rw [Array.getElem?_toList, Nat.add_assoc, h1] at hy
          cases hy
          exact h2
        · cases hx
      · intro j v hv
        rw [List.getElem?_take] at hv
        split at hv
        · rw [List.getElem?_drop, Array.getElem?_toList] at hv
          rw [addr_add, cell_row hra.at_]
          exact hv
        · cases hv
  · cases hr

theorem loadA_run {h : AH} (hh : HRel gl μ h w) {t : TypeId} {b off : Nat} {v : Value} (hr : loadA P h t b off = some v) :
    ∃ c, (loadVar t ⟨(μ b).b, (μ b).o + off, none⟩).run P w = .ok c w ∧ VRel μ h.next v c := by
  unfold loadA at hr
  split at hr
  · rename_i ro z row hg
    unfold loadVar
    split at hr
    · rename_i ha
      split at hr
      · rename_i k hk
        cases hc : Nat.ble (off + k) row.length with
        | false => rw [hc] at hr; cases hr
        | true =>
          rw [hc] at hr
          cases hr
          have hrd : readA h b off k = some ((row.drop off).take k) := by rw [readA_def, hg]; dsimp only; rw [hc]; rfl
          obtain ⟨ds, hl, hrel, hcell⟩ := readA_run hh hrd
          have := run_loadCells_list (P := P) w _ ds hcell
          rw [hl] at this
          simp only [Sem.run_bind, aggT_run ha, Result.andThen_ok, if_true, szT_run hk, this]
          exact ⟨_, rfl, .agg _ _ hrel.1 hrel.2⟩
      · cases hr
    · rename_i ha
      obtain ⟨C, e, fz, hra⟩ := hh.blk _ _ hg
      obtain ⟨c, h1, h2⟩ := hra.cells _ _ (cellA_some hr)
      simp only [Sem.run_bind, aggT_run ha, Result.andThen_ok, Bool.false_eq_true, if_false]
      refine ⟨c, ?_, h2⟩
      rw [run_load, cell_row hra.at_, h1]
    · cases hr
  · cases hr

/-- Storing cells into a row. -/
theorem run_storeCells_row (B o : Nat) (e : TypeId) (fz : Nat × Nat) : ∀ (vs : List Value) (i : Nat) (C : Array Value) (w : World), w.heap[B]? = some (.cells C e fz) → o + i + vs.length ≤ C.size →
    (∀ j : Nat, o + i ≤ j → j < o + i + vs.length → ¬ (fz.1 ≤ j ∧ j < fz.2)) → (∀ v ∈ vs, v.oneCell' = true) →
    ∃ (C' : Array Value) (w' : World), (storeCells ⟨B, o, none⟩ vs i).run P w = .ok () w' ∧ w'.heap[B]? = some (.cells C' e fz) ∧ C'.size = C.size ∧
      (∀ k : Nat, C'[k]? = if o + i ≤ k ∧ k < o + i + vs.length then vs[k - (o + i)]? else C[k]?) ∧
      (∀ k, k ≠ B → w'.heap[k]? = w.heap[k]?) ∧ w'.heap.size = w.heap.size ∧ w'.os = w.os ∧ w'.tape = w.tape ∧ w'.output = w.output := by
  intro vs
  induction vs with
  | nil =>
    intro i C w hw hfit _ _
    exact ⟨C, w, rfl, hw, rfl, fun k => by rw [if_neg (by simp only [List.length_nil]; omega)], fun _ _ => rfl, rfl, rfl, rfl, rfl⟩
  | cons v r ih =>
    intro i C w hw hfit hfz h1
    simp only [List.length_cons] at hfit hfz
    have hst : (store ((⟨B, o, none⟩ : Addr).add i) v).run P w = .ok () (w.setCell ⟨B, o + i, none⟩ v) := by
      rw [addr_add, run_store P w _ v _ (h1 v (by simp)), cell_row hw, frozen_row hw]
      have : C[o + i]? = some C[o + i] := Array.getElem?_eq_getElem (by omega)
      rw [this]
      dsimp only
      rw [if_neg]
      intro hb
      simp only [Bool.and_eq_true, decide_eq_true_eq] at hb
      exact hfz (o + i) (Nat.le_refl _) (by omega) hb
    have hw' : (w.setCell ⟨B, o + i, none⟩ v).heap[B]? = some (.cells (C.setIfInBounds (o + i) v) e fz) := by
      simp [World.setCell, Array.getElem?_modify, hw]
    obtain ⟨C', w', g1, g2, g3, g4, g5, g6, g7, g8, g9⟩ := ih (i + 1) _ _ hw' (by simp only [Array.size_setIfInBounds]; omega)
      (fun j hj0 hj => hfz j (by omega) (by omega)) (fun u hu => h1 u (by simp [hu]))
    refine ⟨C', w', ?_, g2, by rw [g3, Array.size_setIfInBounds], fun k => ?_, fun k hk => ?_, by rw [g6, World.size_setCell], g7, g8, g9⟩
    · unfold storeCells
      simp only [Sem.run_bind, hst, Result.andThen_ok, g1]
    · rw [g4 k]
      simp only [List.length_cons]
      by_cases hk : k = o + i
      · subst hk
        rw [if_neg (by omega), if_pos (by omega), Array.getElem?_setIfInBounds_self_of_lt (by omega), Nat.sub_self]
        rfl
      · by_cases hk2 : o + (i + 1) ≤ k ∧ k < o + (i + 1) + r.length
        · rw [if_pos hk2, if_pos (by omega)]
          have : k - (o + i) = (k - (o + (i + 1))) + 1 := by omega
          rw [this, List.getElem?_cons_succ]
        · rw [if_neg hk2, if_neg (by omega), Array.getElem?_setIfInBounds_ne (by omega)]
    · rw [g5 k hk]
      exact Go.RowKit.Below.heap_setCell _ _ _ _ hk

theorem writeA_run {h h' : AH} (hh : HRel gl μ h w) {b off : Nat} {vs us : List Value} (hr : writeA h b off vs = some h') (hv : LRel μ h.next vs us) :
    ∃ w', (storeCells ⟨(μ b).b, (μ b).o + off, none⟩ us).run P w = .ok () w' ∧ HRel gl μ h' w' ∧ Fr μ h w μ h' w' ∧ h'.next = h.next := by
  rw [writeA_def] at hr
  split at hr
  · rename_i z row hg
    cases hc : (Nat.ble (off + vs.length) row.length && vs.all one1) with
    | false => rw [hc] at hr; cases hr
    | true =>
      rw [hc] at hr
      cases hr
      simp only [Bool.and_eq_true] at hc
      have hle := Nat.le_of_ble_eq_true hc.1
      obtain ⟨C, e, fz, hra⟩ := hh.blk _ _ hg
      have hfit := hra.fits
      have hl := hv.1
      obtain ⟨C', w', g1, g2, g3, g4, g5, g6, g7, g8, g9⟩ := run_storeCells_row (P := P) (μ b).b ((μ b).o + off) e fz us 0 C w hra.at_ (by omega)
        (fun j h0 h1 => hra.free rfl j (by omega) (by omega)) (hv.one1 hc.2)
      have hh' := hh.write (w' := w') hg (splice_length hle) hra g3 g2 g5 g6 g7 g8 g9 (fun j v hj => by
        rw [splice_get hle] at hj
        rw [g4]
        split at hj
        · rename_i h2
          rw [if_pos (by omega)]
          obtain ⟨y, hy, hvy⟩ := hv.get hj
          refine ⟨y, ?_, hvy⟩
          rw [← hy]
          congr 1
          omega
        · rename_i h2
          rw [if_neg (by omega)]
          exact hra.cells j v hj)
      exact ⟨w', g1, hh'.1, hh'.2, rfl⟩
  · cases hr

theorem storeA_run {h h' : AH} (hh : HRel gl μ h w) {t : TypeId} {b off : Nat} {v c : Value} (hr : storeA P h t b off v = some h') (hv : VRel μ h.next v c) :
    ∃ w', (storeVar t ⟨(μ b).b, (μ b).o + off, none⟩ c).run P w = .ok () w' ∧ HRel gl μ h' w' ∧ Fr μ h w μ h' w' ∧ h'.next = h.next := by
  unfold storeA at hr
  split at hr
  · rename_i k hk
    cases hc : Nat.beq v.cells.toList.length k with
    | false => rw [hc] at hr; cases hr
    | true =>
      rw [hc] at hr
      have hl := Nat.eq_of_beq_eq_true hc
      obtain ⟨w', g1, g2⟩ := writeA_run (P := P) hh hr hv.cells
      refine ⟨w', ?_, g2⟩
      unfold storeVar
      have hsz : c.cells.size = k := by rw [← hl, hv.cells.1]; simp
      simp only [Sem.run_bind, szT_run hk, Result.andThen_ok, hsz, ne_eq, not_true_eq_false, if_false, g1]
  · cases hr

end Go.Proofs.YtachednafdmmaaaDoor.AI
