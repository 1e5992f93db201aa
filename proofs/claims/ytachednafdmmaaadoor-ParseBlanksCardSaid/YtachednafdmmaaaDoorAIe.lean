/- The abstract interpreter: fields, indexes, slicing. -/
import Derived.Test.YtachednafdmmaaaDoorAId
namespace Go.Proofs.YtachednafdmmaaaDoor.AI
open Go
set_option linter.unusedVariables false
set_option linter.unusedSimpArgs false

variable {P : Program} {gl : Nat → Option Nat} {μ : Mu} {n : Nat} {w : World}

theorem fieldsT_under {t : TypeId} {fs : List Field} (h : fieldsT P t = some fs) : ∃ fa : Array Field, P.underlying t = some (.struct fa) ∧ fa.toList = fs := by
  unfold fieldsT at h
  split at h
  · rename_i fa hu; cases h; exact ⟨fa, hu, rfl⟩
  · cases h

theorem addr_add (b o k : Nat) : (⟨b, o, none⟩ : Addr).add k = ⟨b, o + k, none⟩ := by
  unfold Addr.add
  split
  · rename_i h; subst h; rfl
  · rfl

theorem fieldAddrA_run {t : TypeId} {x x' v : Value} {i : Nat} (h : fieldAddrA P t x i = some v) (hx : VRel μ n x x') :
    ∃ c, (Instr.fieldAt t x' i).run P w = .ok c w ∧ VRel μ n v c := by
  unfold fieldAddrA at h
  split at h
  · rename_i fs hfs
    obtain ⟨fa, hu, rfl⟩ := fieldsT_under hfs
    split at h
    · rename_i f hf
      split at h
      · rename_i k hk
        split at h
        · rename_i b off
          cases hz : Nat.beq k 0 with
          | true => rw [hz] at h; cases h
          | false =>
            rw [hz] at h
            cases h
            obtain ⟨hb, rfl⟩ := hx.pointer
            rw [Array.getElem?_toList] at hf
            have hk0 : k ≠ 0 := fun e => by subst e; cases hz
            have e1 : (fieldPlace ⟨(μ b).b, (μ b).o + off, none⟩ f).run P w = .ok ⟨(μ b).b, (μ b).o + off + f.offset, none⟩ w := by
              simp only [fieldPlace, Sem.run_bind, szT_run hk, Result.andThen_ok, if_neg hk0, addr_add]; rfl
            have e2 : (Instr.sureAddr (.pointer (some ⟨(μ b).b, (μ b).o + off, none⟩))).run P w = .ok ⟨(μ b).b, (μ b).o + off, none⟩ w := rfl
            refine ⟨_, ?_, by have := VRel.ptr (μ := μ) (n := n) b (off + f.offset) hb; rw [← Nat.add_assoc] at this; exact this⟩
            unfold Instr.fieldAt
            simp only [Sem.run_bind, run_underlying hu, Result.andThen_ok, hf, e2, e1]; rfl
        · cases h
      · cases h
    · cases h
  · cases h

theorem fieldA_run {t : TypeId} {x x' v : Value} {i : Nat} (h : fieldA P t x i = some v) (hx : VRel μ n x x') :
    ∃ c, (Instr.field t x' i).run P w = .ok c w ∧ VRel μ n v c := by
  unfold fieldA at h
  split at h
  · rename_i fs hfs
    obtain ⟨fa, hu, rfl⟩ := fieldsT_under hfs
    split at h
    · rename_i f hf
      split at h
      · rename_i cs
        obtain ⟨ds, rfl, hr⟩ := hx.aggI
        obtain ⟨c, hc, hv⟩ := partA_run (P := P) (w := w) h hr
        rw [Array.getElem?_toList] at hf
        have e2 : (asAgg (.agg ds)).run P w = .ok ds w := rfl
        refine ⟨c, ?_, hv⟩
        unfold Instr.field
        simp only [Sem.run_bind, run_underlying hu, Result.andThen_ok, hf, e2, hc]
      · cases h
    · cases h
  · cases h

theorem indexAddrA_run {t : TypeId} {x x' i i' v : Value} (h : indexAddrA P t x i = some v) (hx : VRel μ n x x') (hi : VRel μ n i i') :
    ∃ c, (Instr.indexAt t x' i').run P w = .ok c w ∧ VRel μ n v c := by
  unfold indexAddrA at h
  split at h
  · rename_i k i
    rw [hi.int]
    have e0 : (asIntOf (.int k i)).run P w = .ok (k, i) w := rfl
    split at h
    · rename_i e hu
      split at h
      · rename_i z hz
        split at h
        · rename_i b off l c
          split at h
          · rename_i hb2
            cases h
            obtain ⟨hb, o', rfl, ho⟩ := hx.slice
            have ho' : o' = (μ b).o + off := by
              rcases ho with ho | ⟨h0, _⟩
              · exact ho
              · omega
            subst ho'
            refine ⟨_, ?_, by have := VRel.ptr (μ := μ) (n := n) b (off + i.toNat * z) hb; rw [← Nat.add_assoc] at this; exact this⟩
            unfold Instr.indexAt
            simp only [Sem.run_bind, e0, run_underlying hu, Result.andThen_ok, Sem.run_pure, Bool.and_false]
            rw [if_pos hb2]
            simp only [Sem.run_bind, szT_run hz, Result.andThen_ok, addr_add]; rfl
          · cases h
        · cases h
      · cases h
    · rename_i k2 e hu
      split at h
      · rename_i z hz
        split at h
        · rename_i b off
          split at h
          · rename_i hb2
            cases h
            obtain ⟨hb, rfl⟩ := hx.pointer
            have e2 : (Instr.sureAddr (.pointer (some ⟨(μ b).b, (μ b).o + off, none⟩))).run P w = .ok ⟨(μ b).b, (μ b).o + off, none⟩ w := rfl
            refine ⟨_, ?_, by have := VRel.ptr (μ := μ) (n := n) b (off + i.toNat * z) hb; rw [← Nat.add_assoc] at this; exact this⟩
            unfold Instr.indexAt
            simp only [Sem.run_bind, e0, run_underlying hu, Result.andThen_ok, e2, Sem.run_pure, Bool.and_true]
            rw [if_pos hb2]
            simp only [Sem.run_bind, szT_run hz, Result.andThen_ok, addr_add]; rfl
          · cases h
        · cases h
      · cases h
    · cases h
  · cases h

theorem bytes_get (s : ByteArray) (i : Nat) : s[i]? = s.data.toList[i]? := by
  by_cases h : i < s.size
  · rw [List.getElem?_eq_getElem h]
    rw [getElem?_pos s i h]
    rfl
  · rw [List.getElem?_eq_none (by simpa using h), getElem?_neg s i h]

theorem indexA_run {t : TypeId} {x x' i i' v : Value} (h : indexA P t x i = some v) (hx : VRel μ n x x') (hi : VRel μ n i i') :
    ∃ c, (Instr.index t x' i').run P w = .ok c w ∧ VRel μ n v c := by
  unfold indexA at h
  split at h
  · rename_i k i
    rw [hi.int]
    have e0 : (asIntOf (.int k i)).run P w = .ok (k, i) w := rfl
    split at h
    · rename_i hu
      split at h
      · rename_i s
        rw [hx.string]
        split at h
        · rename_i h0
          split at h
          · rename_i b hb
            cases h
            refine ⟨_, ?_, .plain _ rfl⟩
            unfold Instr.index
            simp only [Sem.run_bind, e0, run_underlying hu, Result.andThen_ok, if_pos h0, bytes_get, hb]; rfl
          · cases h
        · cases h
      · cases h
    · rename_i k2 e hu
      split at h
      · rename_i z hz
        split at h
        · rename_i cs
          split at h
          · rename_i hb2
            obtain ⟨ds, rfl, hr⟩ := hx.aggI
            obtain ⟨c, hc, hv⟩ := partA_run (P := P) (w := w) h hr
            refine ⟨c, ?_, hv⟩
            unfold Instr.index
            simp only [Sem.run_bind, e0, run_underlying hu, Result.andThen_ok]
            rw [if_pos hb2]
            simp only [Sem.run_bind, szT_run hz, Result.andThen_ok, hc]
          · cases h
        · cases h
      · cases h
    · cases h
  · cases h

theorem bnd_run {x : Option Value} {x' : Option Value} {d k y : Nat} {code : BoundsCode} (h : bnd x d = some k) (hx : ∀ u, x = some u → ∃ u', x' = some u' ∧ VRel μ n u u') (hn : x = none → x' = none) (hk : k ≤ y) :
    (∀ u', x' = some u' → (Instr.sliceBound u' y code).run P w = .ok k w) ∧ (x' = none → k = d) := by
  unfold bnd at h
  split at h
  · cases h
    have := hn rfl
    exact ⟨(fun u' hu' => by rw [this] at hu'; cases hu'), fun _ => rfl⟩
  · rename_i kk i
    split at h
    · rename_i h0
      cases h
      obtain ⟨u', e, hv⟩ := hx _ rfl
      refine ⟨fun u'' hu'' => ?_, (fun hnone => by rw [e] at hnone; cases hnone)⟩
      rw [e] at hu''
      cases hu''
      rw [hv.int]
      exact run_sliceBound w kk i y code h0 (by omega)
    · cases h
  · cases h

/-- An operand that may be missing, and its value. -/
def ORel (μ : Mu) (n : Nat) (x x' : Option Value) : Prop := (∀ u, x = some u → ∃ u', x' = some u' ∧ VRel μ n u u') ∧ (x = none → x' = none)

theorem bounds_run {isS : Bool} {len cap l r : Nat} {lo hi mx lo' hi' mx' : Option Value} {m : Nat} (hl : ORel μ n lo lo') (hh : ORel μ n hi hi') (hm : ORel μ n mx mx')
    (e1 : bnd lo 0 = some l) (e2 : bnd hi len = some r) (e3 : bnd mx cap = some m) (h1 : l ≤ r) (h2 : r ≤ m) (h3 : m ≤ cap) (h4 : hi.isSome = true ∨ mx = none) :
    (Instr.sliceBounds isS len cap lo' hi' mx').run P w = .ok (l, r, m) w := by
  have cl := fun code => bnd_run (P := P) (w := w) (code := code) e1 hl.1 hl.2 h1
  have ch := fun code => bnd_run (P := P) (w := w) (code := code) e2 hh.1 hh.2 h2
  have cm := fun code => bnd_run (P := P) (w := w) (code := code) e3 hm.1 hm.2 h3
  unfold Instr.sliceBounds
  cases lo' with
  | none =>
    have a1 := (cl .index).2 rfl
    cases hi' with
    | none =>
      have a2 := (ch .index).2 rfl
      have hn : mx = none := by
        rcases h4 with h4 | h4
        · cases hi with
          | none => cases h4
          | some u => obtain ⟨u', e, _⟩ := hh.1 u rfl; cases e
        · exact h4
      have := hm.2 hn
      subst this
      have a3 := (cm .index).2 rfl
      simp [Sem.run_bind, a1, a2, a3]
    | some u =>
      cases mx' with
      | none =>
        have a3 := (cm .index).2 rfl
        have a2 := (ch (if isS then .sliceAcap else .sliceAlen)).1 u rfl
        rw [a3] at a2
        subst a1 a3
        simp only [Sem.run_bind, Sem.run_pure, Result.andThen_ok, a2]
      | some u2 =>
        have a3 := (cm (if isS then .slice3Acap else .slice3Alen)).1 u2 rfl
        have a2 := (ch .slice3B).1 u rfl
        subst a1
        simp only [Sem.run_bind, Sem.run_pure, Result.andThen_ok, a2, a3]
  | some u0 =>
    cases hi' with
    | none =>
      have a2 := (ch .index).2 rfl
      have hn : mx = none := by
        rcases h4 with h4 | h4
        · cases hi with
          | none => cases h4
          | some u => obtain ⟨u', e, _⟩ := hh.1 u rfl; cases e
        · exact h4
      have := hm.2 hn
      subst this
      have a3 := (cm .index).2 rfl
      have a1 := (cl .sliceB).1 u0 rfl
      subst a2 a3
      simp only [Sem.run_bind, Sem.run_pure, Result.andThen_ok, Option.isSome_none, Bool.false_eq_true, if_false, a1]
    | some u =>
      cases mx' with
      | none =>
        have a3 := (cm .index).2 rfl
        have a2 := (ch (if isS then .sliceAcap else .sliceAlen)).1 u rfl
        have a1 := (cl .sliceB).1 u0 rfl
        rw [a3] at a2
        subst a3
        simp only [Sem.run_bind, Sem.run_pure, Result.andThen_ok, a2, Option.isSome_none, Bool.false_eq_true, if_false, a1]
      | some u2 =>
        have a3 := (cm (if isS then .slice3Acap else .slice3Alen)).1 u2 rfl
        have a2 := (ch .slice3B).1 u rfl
        have a1 := (cl .slice3C).1 u0 rfl
        simp only [Sem.run_bind, Sem.run_pure, Result.andThen_ok, a2, a3, Option.isSome_some, if_true, a1]

end Go.Proofs.YtachednafdmmaaaDoor.AI
