/- The abstract interpreter: arguments of laws that are rows of plain things. -/
import Derived.Test.YtachednafdmmaaaDoorAIlh
import Derived.Deep.Slices
import Derived.ChangeShapes
import Derived.ChangeArms
import Derived.Carry
namespace Go.Proofs.YtachednafdmmaaaDoor.AI
open Go Go.RowKit Go.Deep
set_option linter.unusedVariables false
set_option linter.unusedSimpArgs false

/-- What a cell of plain data may be. -/
inductive Ckd where
  | int (k : IntKind)
  | bool
  | str
def ckOk : Ckd → Value → Prop
  | .int k, v => ∃ n, v = .int k n ∧ (Lit.int k n).wf = true
  | .bool, v => ∃ b, v = .bool b
  | .str, v => ∃ s, v = .string s ∧ s.size ≤ maxLen
theorem ckOk.plain {k : Ckd} {v : Value} (h : ckOk k v) : plain1 v = true := by
  cases k with
  | int k => obtain ⟨n, rfl, _⟩ := h; rfl
  | bool => obtain ⟨n, rfl⟩ := h; rfl
  | str => obtain ⟨n, rfl, _⟩ := h; rfl
inductive Cks : List Ckd → List Value → Prop where
  | nil : Cks [] []
  | cons {k : Ckd} {ks : List Ckd} {v : Value} {vs : List Value} : ckOk k v → Cks ks vs → Cks (k :: ks) (v :: vs)
theorem Cks.len {ks : List Ckd} {vs : List Value} (h : Cks ks vs) : vs.length = ks.length := by
  induction h with
  | nil => rfl
  | cons _ _ ih => simp [ih]
theorem Cks.append {a b : List Ckd} {x y : List Value} (h : Cks a x) (g : Cks b y) : Cks (a ++ b) (x ++ y) := by
  induction h with
  | nil => exact g
  | cons h1 _ ih => exact .cons h1 ih
theorem Cks.plain {ks : List Ckd} {vs : List Value} (h : Cks ks vs) : ∀ v ∈ vs, plain1 v = true := by
  induction h with
  | nil => intro v hv; cases hv
  | cons h1 _ ih =>
    intro v hv
    rcases List.mem_cons.1 hv with rfl | hv
    · exact h1.plain
    · exact ih v hv

def flatFs (P : Program) (f : TypeId → Option (List Ckd)) : Nat → List Field → Option (List Ckd)
  | _, [] => some []
  | off, x :: r => if x.offset = off then (match f x.type with
    | some ks => if ks.length = P.cellsOf x.type then (match flatFs P f (off + ks.length) r with
      | some rs => some (ks ++ rs)
      | none => none) else none
    | none => none) else none
/-- The cells of a type that holds no address. -/
def flat (P : Program) : Nat → TypeId → Option (List Ckd)
  | 0, _ => none
  | n + 1, t => match P.underlying t with
    | some .bool => some [.bool]
    | some (.int k) => some [.int k]
    | some .string => some [.str]
    | some (.struct fs) => match flatFs P (flat P n) 0 fs.toList with
      | some ks => if ks.length = P.cellsOf t then some ks else none
      | none => none
    | _ => none

variable {H : Type} {enc : TypeId × Value → H} {P : Program} {w : World} {base : Nat} {spare : Nat → Bool} {held : Bool}

theorem mapM_all {α β : Type} {f : α → Option β} : ∀ {l : List α} {r : List β}, l.mapM f = some r → ∀ a ∈ l, ∃ b, f a = some b := by
  intro l
  induction l with
  | nil => intro r _ a ha; cases ha
  | cons x l ih =>
    intro r h a ha
    simp only [List.mapM_cons, Option.bind_eq_bind, Option.bind_eq_some_iff, Option.pure_def, Option.some.injEq] at h
    obtain ⟨b, hb, r', hr', _⟩ := h
    rcases List.mem_cons.1 ha with rfl | ha
    · exact ⟨b, hb⟩
    · exact ih hr' a ha

theorem flatFs_ok {f : TypeId → Option (List Ckd)} {g : TypeId → List Value → Prop} (hf : ∀ t ks cs, f t = some ks → g t cs → Cks ks cs) {cs : List Value} : ∀ (fs : List Field) (off : Nat) (ks : List Ckd), flatFs P f off fs = some ks →
    (∀ x ∈ fs, g x.type ((cs.drop x.offset).take (P.cellsOf x.type))) → Cks ks ((cs.drop off).take ks.length) := by
  intro fs
  induction fs with
  | nil => intro off ks h _; cases h; rw [List.length_nil, List.take_zero]; exact .nil
  | cons x r ih =>
    intro off ks h hx
    simp only [flatFs] at h
    split at h
    · rename_i ho
      split at h
      · rename_i k1 hk1
        split at h
        · rename_i hl
          split at h
          · rename_i rs hrs
            cases h
            have h1 := hf _ _ _ hk1 (hx x (by simp))
            rw [ho, ← hl] at h1
            have h2 := ih _ _ hrs fun y hy => hx y (by simp [hy])
            have := h1.append h2
            have e1 := h1.len
            rw [List.length_append, List.take_add, List.drop_drop]
            exact this
          · cases h
        · cases h
      · cases h
    · cases h

theorem flat_ok : ∀ (n : Nat) (t : TypeId) (ks : List Ckd) (cs : List Value), flat P n t = some ks → (∃ fuel x, DataW.trod enc P w base spare held fuel t cs = some x) → Cks ks cs := by
  intro n
  induction n with
  | zero => intro t ks cs h; cases h
  | succ n ih =>
    intro t ks cs h hx
    obtain ⟨fuel, x, hx⟩ := hx
    cases fuel with
    | zero => simp [DataW.trod] at hx
    | succ fuel =>
      simp only [flat] at h
      split at h
      · rename_i ht
        cases h
        obtain ⟨b, rfl, _⟩ := DataW.trod_bool ht hx
        exact .cons ⟨b, rfl⟩ .nil
      · rename_i k ht
        cases h
        obtain ⟨m, rfl, _, hw⟩ := DataW.trod_int ht hx
        exact .cons ⟨m, rfl, hw⟩ .nil
      · rename_i ht
        cases h
        obtain ⟨s, rfl, _, hs⟩ := DataW.trod_string ht hx
        exact .cons ⟨s, rfl, hs⟩ .nil
      · rename_i fs ht
        split at h
        · rename_i ks' hks
          split at h
          · rename_i hl
            cases h
            obtain ⟨xs, m, _, _, hc, hxl, hm⟩ := DataW.trod_struct ht hx
            have := flatFs_ok (P := P) (f := flat P n) (g := fun t cs => ∃ fuel x, DataW.trod enc P w base spare held fuel t cs = some x) (fun t ks cs h1 h2 => ih t ks cs h1 h2) (cs := cs) fs.toList 0 _ hks fun y hy => by
              obtain ⟨i, hi, rfl⟩ := List.getElem_of_mem hy
              have hi' : i < fs.size := by simpa using hi
              have h1 := hm i _ (Array.getElem?_eq_getElem hi')
              rw [List.getElem?_eq_getElem (by omega)] at h1
              exact ⟨m, _, h1⟩
            rw [List.drop_zero, hl, ← hc, List.take_length] at this
            exact this
          · cases h
        · cases h
      · cases h

/-- A row of so many things, each of such cells. -/
def RowOk (ks : List Ckd) : Nat → List Value → Prop
  | 0, cs => cs = []
  | l + 1, cs => ∃ a r, cs = a ++ r ∧ Cks ks a ∧ RowOk ks l r
theorem RowOk.plain {ks : List Ckd} : ∀ {l : Nat} {cs : List Value}, RowOk ks l cs → ∀ v ∈ cs, plain1 v = true := by
  intro l
  induction l with
  | zero => intro cs h v hv; cases h; cases hv
  | succ l ih =>
    rintro cs ⟨a, r, rfl, ha, hr⟩ v hv
    rcases List.mem_append.1 hv with hv | hv
    · exact ha.plain v hv
    · exact ih hr v hv
theorem RowOk.len {ks : List Ckd} : ∀ {l : Nat} {cs : List Value}, RowOk ks l cs → cs.length = l * ks.length := by
  intro l
  induction l with
  | zero => intro cs h; cases h; simp
  | succ l ih =>
    rintro cs ⟨a, r, rfl, ha, hr⟩
    rw [List.length_append, ih hr, ha.len, Nat.succ_mul, Nat.add_comm]

/-- A law's argument that is a slice of plain things, as a frozen row. -/
theorem open_gsl {n : Nat} {t e : TypeId} {ks : List Ckd} {r : Reach} {b0 : Nat} {v : Value} {d : DataW H} {ps : List MemPlace} (ht : P.underlying t = some (.slice e)) (hk : flat P n e = some ks) (hc : ks.length = P.cellsOf e) (hc0 : 0 < ks.length)
    (hval : Value.okWide P w r b0 t v) (h : DataW.Trod enc P w 0 spare held t v d ps) : ∃ l cs, RowOk ks l cs ∧ l ≤ maxLen ∧ VRel (mu0 w) 0 (gslV l 0 false cs) v := by
  have hcell : Cell.ok P w r b0 t v := by
    unfold Value.okWide at hval
    rw [ht] at hval
    dsimp only at hval
    unfold Cell.okWide at hval
    rw [ht] at hval
    exact hval
  obtain ⟨fuel, h⟩ := h
  unfold Cell.ok at hcell
  rw [ht] at hcell
  rcases open_slice ht h with ⟨hv, _⟩ | ⟨a, len, cap, m, n', D, Pl, hv, hb, hl, hm, hmm, _, hx⟩
  · refine ⟨0, [], rfl, Nat.zero_le _, ?_⟩
    split at hcell <;> simp [Value.cells] at hv <;> try exact hcell.elim
    exact .gsl 0 0 false [] none 0 0 0 #[] (fun h => by cases h) (Nat.le_refl _) (fun p hp => by cases hp) (fun _ => rfl) (fun h => absurd rfl h) (fun j x y h => absurd rfl h)
  · have hlm : len ≤ m := by rw [hmm]; split <;> omega
    have hve : v = .slice (some a) len cap ∧ a.spot = none := by
      split at hcell <;> simp [Value.cells] at hv <;> try exact hcell.elim
      · rename_i e1
        cases e1
        obtain ⟨rfl, rfl, rfl⟩ := hv
        exact ⟨rfl, hcell.2.2.2.1⟩
    obtain ⟨rfl, hsp⟩ := hve
    by_cases hl0 : len = 0
    · subst hl0
      exact ⟨0, [], rfl, Nat.zero_le _, .gsl 0 0 false [] (some a) cap 0 0 #[] (fun h => by cases h) hl (fun p hp => by cases hp; exact hsp) (fun h => by cases h) (fun h => absurd rfl h) (fun j x y h => absurd rfl h)⟩
    · -- the block
      obtain ⟨ab, ao, as⟩ := a
      have hsp' : as = none := hsp
      subst hsp'
      have hcz : 0 < P.cellsOf e := by rw [← hc]; exact hc0
      have hcell : ∀ i, i < len * P.cellsOf e → ∃ u, w.cell? ⟨ab, ao + i, none⟩ = some u := by
        intro i hi
        have hq : i / P.cellsOf e < len := Nat.div_lt_of_lt_mul (by rw [Nat.mul_comm]; exact hi)
        obtain ⟨cs', h1, h2⟩ := hx (i / P.cellsOf e) (by omega)
        obtain ⟨_, hlen, hg⟩ := World.cells?_some h1
        have hr := Nat.mod_lt i hcz
        have := hg (i % P.cellsOf e) hr
        rw [List.getElem?_eq_getElem (by omega), addr_add, addr_add, Nat.add_assoc] at this
        have hd := Nat.div_add_mod i (P.cellsOf e)
        rw [Nat.mul_comm] at hd
        rw [hd] at this
        exact ⟨_, this⟩
      obtain ⟨u0, hu0⟩ := hcell 0 (Nat.mul_pos (by omega) hcz)
      cases hB : w.heap[ab]? with
      | none => simp [World.cell?, hB] at hu0
      | some blk =>
        cases blk with
        | cells C et fz =>
          have hat : ∀ i u, w.cell? ⟨ab, ao + i, none⟩ = some u → C[ao + i]? = some u := by
            intro i u hu
            simpa [World.cell?, hB] using hu
          have hsz : ao + len * P.cellsOf e ≤ C.size := by
            have hpos : 0 < len * P.cellsOf e := Nat.mul_pos (by omega) hcz
            obtain ⟨u, hu⟩ := hcell (len * P.cellsOf e - 1) (by omega)
            have := (Array.getElem?_eq_some_iff.1 (hat _ u hu)).1
            omega
          -- the chunks
          have hchunk : ∀ i, i < len → Cks ks ((C.toList.drop (ao + i * P.cellsOf e)).take (P.cellsOf e)) := by
            intro i hi
            obtain ⟨cs', h1, h2⟩ := hx i (by omega)
            obtain ⟨_, hlen, hg⟩ := World.cells?_some h1
            have hcs := flat_ok n e ks cs' hk ⟨n', _, h2⟩
            have hle : i * P.cellsOf e + P.cellsOf e ≤ len * P.cellsOf e := by rw [← Nat.succ_mul]; exact Nat.mul_le_mul_right _ hi
            have : (C.toList.drop (ao + i * P.cellsOf e)).take (P.cellsOf e) = cs' := by
              refine List.ext_getElem? fun j => ?_
              rw [List.getElem?_take]
              by_cases hj : j < P.cellsOf e
              · rw [if_pos hj, List.getElem?_drop, Array.getElem?_toList]
                have := hg j hj
                rw [addr_add, addr_add] at this
                simp only [World.cell?, hB] at this
                rw [← this]
                simp
              · rw [if_neg hj, List.getElem?_eq_none (by omega)]
            rw [this]
            exact hcs
          have hrow : ∀ (k i : Nat), i + k = len → RowOk ks k ((C.toList.drop (ao + i * P.cellsOf e)).take (k * P.cellsOf e)) := by
            intro k
            induction k with
            | zero => intro i _; simp [RowOk]
            | succ k ihk =>
              intro i hik
              refine ⟨_, _, ?_, hchunk i (by omega), ihk (i + 1) (by omega)⟩
              rw [Nat.succ_mul, Nat.add_comm (k * P.cellsOf e), List.take_add, List.drop_drop, Nat.succ_mul, Nat.add_assoc]
          refine ⟨len, (C.toList.drop ao).take (len * P.cellsOf e), ?_, by omega, ?_⟩
          · have := hrow len 0 (by omega)
            rw [Nat.zero_mul, Nat.add_zero] at this
            exact this
          · have hpl := (hrow len 0 (by omega)).plain
            rw [Nat.zero_mul, Nat.add_zero] at hpl
            refine .gsl len 0 false _ (some ⟨ab, ao, none⟩) cap ab ao C (fun h => by cases h) hl (fun p hp => by cases hp; rfl) (fun h => by cases h) (fun _ => ⟨rfl, ?_, ?_⟩) (fun j x y _ hxj hyj => ?_)
            · show frW w ab = some C
              exact frW_some.2 ⟨et, fz, hB⟩
            · rw [List.length_take, List.length_drop, Array.length_toList]; omega
            · have hj := (List.getElem?_eq_some_iff.1 hxj).1
              rw [List.length_take] at hj
              rw [List.getElem?_take, if_pos (by omega), List.getElem?_drop, Array.getElem?_toList, hyj] at hxj
              cases hxj
              refine .plain _ (hpl _ ?_)
              refine List.mem_of_getElem? (i := j) ?_
              rw [List.getElem?_take, if_pos (by omega), List.getElem?_drop, Array.getElem?_toList, hyj]
        | _ => simp [World.cell?, hB] at hu0

/-- A law's argument that is a struct of plain things. -/
theorem open_flat {n : Nat} {t : TypeId} {fs : Array Field} {ks : List Ckd} {r : Reach} {b0 : Nat} {v : Value} {d : DataW H} {ps : List MemPlace} (ht : P.underlying t = some (.struct fs)) (hk : flat P n t = some ks)
    (hval : Value.okWide P w r b0 t v) (h : DataW.Trod enc P w base spare held t v d ps) : ∃ cs, v = .agg ⟨cs⟩ ∧ Cks ks cs := by
  unfold Value.okWide at hval
  rw [ht] at hval
  obtain ⟨cs, rfl, _⟩ := hval
  obtain ⟨fuel, h⟩ := h
  exact ⟨cs.toList, rfl, flat_ok n t ks cs.toList hk ⟨fuel, _, h⟩⟩

end Go.Proofs.YtachednafdmmaaaDoor.AI
