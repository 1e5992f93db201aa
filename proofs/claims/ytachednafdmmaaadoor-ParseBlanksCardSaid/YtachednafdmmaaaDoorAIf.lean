/- The abstract interpreter: slicing, conversions, lengths. -/
import Derived.Test.YtachednafdmmaaaDoorAIe
import Derived.Lib.Strings
import Derived.Laws.BytesString
import Derived.Lib.ConvBytes
namespace Go.Proofs.YtachednafdmmaaaDoor.AI
open Go
set_option linter.unusedVariables false
set_option linter.unusedSimpArgs false

variable {P : Program} {gl : Nat → Option Nat} {μ : Mu} {n : Nat} {w : World}

theorem VRel.slcE {b o l c k : Nat} (hb : b < n) (hk : k = l + c / 2 + c % 2 * (μ b).s) : VRel μ n (.slice (some ⟨b, o, none⟩) l c) (.slice (some ⟨(μ b).b, (μ b).o + o, none⟩) l k) := hk ▸ .slc b o l c hb

theorem extract_eq (s : ByteArray) (l r : Nat) : s.extract l r = ⟨⟨(s.data.toList.drop l).take (r - l)⟩⟩ := by
  apply ByteArray.ext
  apply Array.ext'
  simp [ByteArray.data_extract, List.extract_eq_take_drop]

theorem sliceAt_not_array {t : TypeId} {u : TypeDesc} (hu : P.underlying t = some u) (hn : ∀ k e, u ≠ .array k e) (x : Value) (lo hi mx : Option Value) :
    (Instr.sliceAt t x lo hi mx).run P w = (Instr.slice t x lo hi mx).run P w := by
  unfold Instr.sliceAt
  simp only [Sem.run_bind, run_underlying hu, Result.andThen_ok]

theorem sliceA_run {t : TypeId} {x x' v : Value} {lo hi mx lo' hi' mx' : Option Value} (h : sliceA P t x lo hi mx = some v) (hx : VRel μ n x x')
    (hl : ORel μ n lo lo') (hh : ORel μ n hi hi') (hm : ORel μ n mx mx') : ∃ c, (Instr.sliceAt t x' lo' hi' mx').run P w = .ok c w ∧ VRel μ n v c := by
  unfold sliceA at h
  split at h
  · rename_i hu
    rw [sliceAt_not_array hu (fun _ _ h => by cases h)]
    split at h
    · rename_i s
      rw [hx.string]
      cases hms : mx.isSome with
      | true => rw [hms] at h; cases h
      | false =>
        rw [hms] at h
        simp only [cond_false] at h
        have hmn : mx = none := by cases mx <;> first | rfl | cases hms
        have hmn' := hm.2 hmn
        subst hmn hmn'
        split at h
        · rename_i l hl'
          split at h
          · rename_i r hr'
            cases hc : Nat.ble l r && Nat.ble r s.data.toList.length with
            | false => rw [hc] at h; cases h
            | true =>
              rw [hc] at h
              cases h
              simp only [Bool.and_eq_true] at hc
              have c1 := Nat.le_of_ble_eq_true hc.1
              have c2 := Nat.le_of_ble_eq_true hc.2
              have hb := bounds_run (P := P) (w := w) (isS := false) (cap := s.data.toList.length) (m := s.data.toList.length) hl hh hm hl' hr' rfl c1 c2 (Nat.le_refl _) (.inr rfl)
              refine ⟨_, ?_, .plain _ rfl⟩
              unfold Instr.slice
              have hsz : s.size = s.data.toList.length := rfl
              simp only [Sem.run_bind, run_underlying hu, Result.andThen_ok, Option.isSome_none, Bool.false_eq_true, if_false, Sem.run_pure]
              rw [hsz, hb]
              simp only [Result.andThen_ok, extract_eq]
          · cases h
        · cases h
    · cases h
  · rename_i e hu
    rw [sliceAt_not_array hu (fun _ _ h => by cases h)]
    split at h
    · cases h
    · rename_i z hz
      split at h
      · rename_i k c
        obtain ⟨rfl, rfl, rfl⟩ := hx.nilSlice
        split at h
        · rename_i l hl'
          split at h
          · rename_i r hr'
            split at h
            · rename_i m hm'
              cases hc : (Nat.beq 0 0 && Nat.beq 0 0 && Nat.beq l 0 && Nat.beq r 0 && Nat.beq m 0 && (hi.isSome || !mx.isSome)) with
              | false => rw [hc] at h; cases h
              | true =>
                rw [hc] at h
                cases h
                simp only [Bool.and_eq_true] at hc
                have c1 := Nat.eq_of_beq_eq_true hc.1.1.1.2
                have c2 := Nat.eq_of_beq_eq_true hc.1.1.2
                have c3 := Nat.eq_of_beq_eq_true hc.1.2
                subst c1 c2 c3
                have c4 : hi.isSome = true ∨ mx = none := by
                  have := hc.2
                  cases hi <;> cases mx <;> simp at this ⊢
                have hb := bounds_run (P := P) (w := w) (isS := true) (cap := 0) hl hh hm hl' hr' hm' (Nat.le_refl _) (Nat.le_refl _) (Nat.le_refl _) c4
                refine ⟨_, ?_, .plain _ rfl⟩
                unfold Instr.slice
                simp only [Sem.run_bind, run_underlying hu, Result.andThen_ok, hb, szT_run hz]; rfl
            · cases h
          · cases h
        · cases h
      · rename_i b off k c
        obtain ⟨hb, o', rfl, ho⟩ := hx.slice
        split at h
        · rename_i l hl'
          split at h
          · rename_i r hr'
            split at h
            · -- two bounds
              have hmn' := hm.2 rfl
              subst hmn'
              cases hc : Nat.ble l r && Nat.ble r (k + c / 2) with
              | false => rw [hc] at h; cases h
              | true =>
                rw [hc] at h
                simp only [cond_true] at h
                simp only [Bool.and_eq_true] at hc
                have c1 := Nat.le_of_ble_eq_true hc.1
                have c2 := Nat.le_of_ble_eq_true hc.2
                have hbd := bounds_run (P := P) (w := w) (isS := true) (cap := k + c / 2 + c % 2 * (μ b).s) (m := k + c / 2 + c % 2 * (μ b).s) hl hh hm hl' hr' rfl c1 (by omega) (Nat.le_refl _) (.inr rfl)
                have hrun : (Instr.slice t (.slice (some ⟨(μ b).b, o', none⟩) k (k + c / 2 + c % 2 * (μ b).s)) lo' hi' none).run P w =
                    .ok (.slice (some ⟨(μ b).b, if k + c / 2 + c % 2 * (μ b).s = l then o' else o' + l * z, none⟩) (r - l) (k + c / 2 + c % 2 * (μ b).s - l)) w := by
                  unfold Instr.slice
                  simp only [Sem.run_bind, run_underlying hu, Result.andThen_ok, hbd, szT_run hz, Option.map_some, addr_add, Sem.run_pure]
                  split <;> rfl
                rw [hrun]
                refine ⟨_, rfl, ?_⟩
                rcases Nat.mod_two_eq_zero_or_one c with hp | hp
                · -- exact
                  rw [hp] at h
                  have hqq : Nat.beq 0 0 = true := rfl
                  rw [hqq] at h
                  simp only [cond_true, Option.some.injEq] at h
                  subst h
                  have e1 : o' = (μ b).o + off := by
                    rcases ho with ho | ⟨_, h2, _⟩
                    · exact ho
                    · omega
                  subst e1
                  rw [hp, Nat.zero_mul, Nat.add_zero]
                  have e2 : k + c / 2 - l = (r - l) + (c + 2 * k - 2 * r) / 2 + (c + 2 * k - 2 * r) % 2 * (μ b).s := by
                    have : (c + 2 * k - 2 * r) % 2 = 0 := by omega
                    rw [this, Nat.zero_mul]; omega
                  rw [e2]
                  by_cases hcl : k + c / 2 = l
                  · rw [if_pos hcl]
                    have : Nat.beq l (k + c / 2) = true := by rw [hcl]; simp
                    rw [this]
                    exact .slc b _ _ _ hb
                  · rw [if_neg hcl]
                    have : Nat.beq l (k + c / 2) = false := by
                      cases hq : Nat.beq l (k + c / 2) with
                      | false => rfl
                      | true => exact absurd (Nat.eq_of_beq_eq_true hq).symm hcl
                    rw [this, Nat.add_assoc]
                    exact .slc b _ _ _ hb
                · -- room behind
                  rw [hp] at h
                  have hq : Nat.beq 1 0 = false := rfl
                  rw [hq] at h
                  simp only [cond_false, Option.some.injEq] at h
                  subst h
                  rw [hp, Nat.one_mul]
                  by_cases hcl : k + c / 2 = l
                  · -- nothing is left: the empty slice at the end
                    have e1 : r - l = 0 := by omega
                    have e2 : c + 2 * k - 2 * r = 1 := by omega
                    have e3 : k + c / 2 + (μ b).s - l = (μ b).s := by omega
                    rw [e1, e2, e3]
                    refine .slc0 b _ _ hb fun hs => ?_
                    have e4 : o' = (μ b).o + off := by
                      rcases ho with ho | ⟨_, _, h3⟩
                      · exact ho
                      · exact absurd h3 hs
                    rw [if_neg (by omega), e4, Nat.add_assoc]
                  · have e4 : o' = (μ b).o + off := by
                      rcases ho with ho | ⟨_, h2, _⟩
                      · exact ho
                      · omega
                    rw [if_neg (by omega), e4, Nat.add_assoc]
                    have e2 : k + c / 2 + (μ b).s - l = (r - l) + (c + 2 * k - 2 * r) / 2 + (c + 2 * k - 2 * r) % 2 * (μ b).s := by
                      have : (c + 2 * k - 2 * r) % 2 = 1 := by omega
                      rw [this, Nat.one_mul]; omega
                    rw [e2]
                    exact .slc b _ _ _ hb
            · rename_i mv
              split at h
              · rename_i m hm'
                cases hc : (Nat.ble l r && Nat.ble r m && Nat.ble m (k + c / 2) && hi.isSome && !(Nat.beq k 0 && Nat.beq c 1)) with
                | false => rw [hc] at h; cases h
                | true =>
                  rw [hc] at h
                  simp only [cond_true, Option.some.injEq] at h
                  subst h
                  simp only [Bool.and_eq_true] at hc
                  have c1 := Nat.le_of_ble_eq_true hc.1.1.1.1
                  have c2 := Nat.le_of_ble_eq_true hc.1.1.1.2
                  have c3 := Nat.le_of_ble_eq_true hc.1.1.2
                  have e4 : o' = (μ b).o + off := by
                    rcases ho with ho | ⟨h1, h2, _⟩
                    · exact ho
                    · have := hc.2
                      rw [h1, h2] at this
                      exact absurd this (by decide)
                  subst e4
                  have hm'' : bnd (some mv) (k + c / 2 + c % 2 * (μ b).s) = some m := by
                    unfold bnd at hm' ⊢
                    cases mv <;> exact hm'
                  have hbd := bounds_run (P := P) (w := w) (isS := true) (cap := k + c / 2 + c % 2 * (μ b).s) hl hh hm hl' hr' hm'' c1 c2 (by omega) (.inl hc.1.2)
                  refine ⟨.slice (some ⟨(μ b).b, if m = l then (μ b).o + off else (μ b).o + off + l * z, none⟩) (r - l) (m - l), ?_, ?_⟩
                  · unfold Instr.slice
                    simp only [Sem.run_bind, run_underlying hu, Result.andThen_ok, hbd, szT_run hz, Option.map_some, addr_add, Sem.run_pure]
                    split <;> rfl
                  · have e2 : m - l = (r - l) + (2 * (m - r)) / 2 + (2 * (m - r)) % 2 * (μ b).s := by
                      have : (2 * (m - r)) % 2 = 0 := by omega
                      rw [this, Nat.zero_mul]; omega
                    by_cases hcl : m = l
                    · rw [if_pos hcl]
                      have : Nat.beq l m = true := by rw [hcl]; simp
                      rw [this]
                      exact .slcE hb e2
                    · rw [if_neg hcl]
                      have : Nat.beq l m = false := by
                        cases hq : Nat.beq l m with
                        | false => rfl
                        | true => exact absurd (Nat.eq_of_beq_eq_true hq).symm hcl
                      rw [this, Nat.add_assoc]
                      exact .slcE hb e2
              · cases h
          · cases h
        · cases h
      · cases h
  · rename_i k e hu
    split at h
    · cases h
    · rename_i z hz
      split at h
      · rename_i b off
        obtain ⟨hb, rfl⟩ := hx.pointer
        split at h
        · rename_i l hl'
          split at h
          · rename_i r hr'
            cases hms : mx.isSome with
            | true => rw [hms] at h; cases h
            | false =>
              rw [hms] at h
              simp only [cond_false] at h
              have hmn : mx = none := by cases mx <;> first | rfl | cases hms
              have hmn' := hm.2 hmn
              subst hmn hmn'
              cases hc : Nat.ble l r && Nat.ble r k with
              | false => rw [hc] at h; cases h
              | true =>
                rw [hc] at h
                simp only [cond_true, Option.some.injEq] at h
                subst h
                simp only [Bool.and_eq_true] at hc
                have c1 := Nat.le_of_ble_eq_true hc.1
                have c2 := Nat.le_of_ble_eq_true hc.2
                have hbd := bounds_run (P := P) (w := w) (isS := false) (cap := k) (m := k) hl hh hm hl' hr' rfl c1 c2 (Nat.le_refl _) (.inr rfl)
                have e0 : (Instr.sureAddr (.pointer (some ⟨(μ b).b, (μ b).o + off, none⟩))).run P w = .ok ⟨(μ b).b, (μ b).o + off, none⟩ w := rfl
                refine ⟨.slice (some ⟨(μ b).b, if k = l then (μ b).o + off else (μ b).o + off + l * z, none⟩) (r - l) (k - l), ?_, ?_⟩
                · unfold Instr.sliceAt
                  simp only [Sem.run_bind, run_underlying hu, Result.andThen_ok, e0, hbd, szT_run hz, addr_add, Sem.run_pure]
                  split <;> rfl
                · have e2 : k - l = (r - l) + (2 * (k - r)) / 2 + (2 * (k - r)) % 2 * (μ b).s := by
                    have : (2 * (k - r)) % 2 = 0 := by omega
                    rw [this, Nat.zero_mul]; omega
                  by_cases hcl : k = l
                  · rw [if_pos hcl]
                    have : Nat.beq k l = true := by rw [hcl]; simp
                    rw [this]
                    exact .slcE hb e2
                  · rw [if_neg hcl]
                    have : Nat.beq k l = false := by
                      cases hq : Nat.beq k l with
                      | false => rfl
                      | true => exact absurd (Nat.eq_of_beq_eq_true hq) hcl
                    rw [this, Nat.add_assoc]
                    exact .slcE hb e2
          · cases h
        · cases h
      · cases h
  · cases h

theorem lenA_run {gl : Nat → Option Nat} {h : AH} {ts : List TypeId} {ty : TypeId} {x x' v : Value} {rest rest' : List Value} (hv : lenA P h ts x = some v) (hh : HRel gl μ h w) (hx : VRel μ h.next x x') :
    (Builtin.len_ ⟨ts⟩ ty ⟨x' :: rest'⟩).run P w = .ok v w ∧ VRel μ h.next v v := by
  unfold lenA at hv
  split at hv
  · rename_i t ts
    have e1 : (⟨t :: ts⟩ : Array TypeId)[0]? = some t := rfl
    have e2 : (⟨x' :: rest'⟩ : Array Value)[0]? = some x' := rfl
    unfold Builtin.len_
    rw [e1, e2]
    split at hv
    · rename_i hu
      split at hv
      · rename_i s
        cases hv
        rw [hx.string]
        simp only [Sem.run_bind, run_underlying hu, Result.andThen_ok]
        exact ⟨rfl, .plain _ rfl⟩
      · cases hv
    · rename_i e hu
      split at hv
      · rename_i a k c
        cases hv
        simp only [Sem.run_bind, run_underlying hu, Result.andThen_ok]
        cases hx with
        | plain x hx =>
          cases a with
          | none => exact ⟨rfl, .plain _ rfl⟩
          | some a => simp [plain1] at hx
        | slc b o l c hb => exact ⟨rfl, .plain _ rfl⟩
        | slc0 b o o' hb ho => exact ⟨rfl, .plain _ rfl⟩
      · cases hv
    · rename_i k e hu
      cases hv
      simp only [Sem.run_bind, run_underlying hu, Result.andThen_ok]
      exact ⟨rfl, .plain _ rfl⟩
    · rename_i k e hu
      simp only [Sem.run_bind, run_underlying hu, Result.andThen_ok]
      split at hv
      · cases hv
        rw [hx.nilMap]
        exact ⟨rfl, .plain _ rfl⟩
      · rename_i r
        obtain ⟨hr, rfl⟩ := hx.mapI
        split at hv
        · rename_i ro es hg
          cases hv
          obtain ⟨E, clock, h1, h2, h3⟩ := hh.blk _ _ hg
          have hl : E.size = es.length := by
            have := h2.1
            simpa using this.symm
          have e3 : (getObj (μ r).b).run P w = .ok (.map E clock) w := by
            simp only [getObj, Sem.run, h1]
          dsimp only
          simp only [Sem.run_bind, e3, Result.andThen_ok, Sem.run_pure, hl]
          exact ⟨rfl, .plain _ rfl⟩
        · cases hv
      · cases hv
    · cases hv
  · cases hv

end Go.Proofs.YtachednafdmmaaaDoor.AI
