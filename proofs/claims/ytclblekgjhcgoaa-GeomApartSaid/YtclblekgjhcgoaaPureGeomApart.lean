import Derived.Test.YtclblekgjhcgoaaPGeomApartx2
namespace Go.Proofs.Ytclblekgjhcgoaa.Pure
open Go Go.RowKit Go.Proofs.Ytclblekgjhcgoaa.PGeomApart Go.Proofs.YtclblekgjhcgoaaW.PrintWords Go.Proofs.YtclblekgjhcgoaaW.PrintLast Go.Proofs.YtclblekgjhcgoaaW.PrintMore
set_option linter.unusedVariables false
set_option linter.unusedSimpArgs false
theorem words_out {a : Int} (h : a < 0 ∨ 6 ≤ a) : geom_Words.f a = some 0 := by
  unfold geom_Words.f
  by_cases h0 : a < 0
  · rw [if_pos h0]
  · rw [if_neg h0, if_pos (by omega)]
theorem words_0 : geom_Words.f 0 = some 2 := by decide +kernel
theorem words_1 : geom_Words.f 1 = some 4 := by decide +kernel
theorem words_2 : geom_Words.f 2 = some 8 := by decide +kernel
theorem words_3 : geom_Words.f 3 = some 16 := by decide +kernel
theorem words_4 : geom_Words.f 4 = some 32 := by decide +kernel
theorem words_5 : geom_Words.f 5 = some 64 := by decide +kernel
theorem places_out {a : Int} (h : a < 0 ∨ 6 ≤ a) : geom_Places.f a = some 0 := by
  simp [geom_Places.f, words_out h]
theorem places_0 : geom_Places.f 0 = some 32 := by decide +kernel
theorem places_1 : geom_Places.f 1 = some 16 := by decide +kernel
theorem places_2 : geom_Places.f 2 = some 8 := by decide +kernel
theorem places_3 : geom_Places.f 3 = some 4 := by decide +kernel
theorem places_4 : geom_Places.f 4 = some 2 := by decide +kernel
theorem places_5 : geom_Places.f 5 = some 1 := by decide +kernel
theorem awake {k : Nat} : gantlinelaw2_awake.f 9 = some true := by decide +kernel
theorem six (a : Int) : (a < 0 ∨ 6 ≤ a) ∨ a = 0 ∨ a = 1 ∨ a = 2 ∨ a = 3 ∨ a = 4 ∨ a = 5 := by omega
theorem wrap_id {n : Int} (h : -9223372036854775808 ≤ n) (h' : n < 9223372036854775808) : wrap64 n = n := by unfold wrap64; omega
theorem lit64 {a : Int} (h : (Lit.int .i64 a).wf = true) : -9223372036854775808 ≤ a ∧ a < 9223372036854775808 := by
  have e1 : IntKind.i64.min = -9223372036854775808 := by decide +kernel
  have e2 : IntKind.i64.max = 9223372036854775807 := by decide +kernel
  simp [Lit.wf, e1, e2] at h
  omega
theorem addr_low {s p c : Int} (h : s < 1 ∨ 512 ≤ s ∨ p < 0) : geom_Addr.f s p c = some 0 := by
  unfold geom_Addr.f
  by_cases h1 : s < 1
  · rw [if_pos h1]
  · rw [if_neg h1]
    by_cases h2 : s ≥ 512
    · rw [if_pos h2]
    · rw [if_neg h2, if_pos (by omega)]
theorem addr_in {s p c P W : Int} (hP : geom_Places.f c = some P) (hW : geom_Words.f c = some W) (h1 : 1 ≤ s) (h2 : s < 512) (h3 : 0 ≤ p) :
    geom_Addr.f s p c = if p ≥ P then some 0 else some (wrap64 (wrap64 (s * 64) + wrap64 (p * W))) := by
  unfold geom_Addr.f
  rw [if_neg (by omega), if_neg (by omega), if_neg (by omega), hP]
  simp [hW]
theorem addr_out {s p c : Int} (h : c < 0 ∨ 6 ≤ c) : geom_Addr.f s p c = some 0 := by
  by_cases h0 : s < 1 ∨ 512 ≤ s ∨ p < 0
  · exact addr_low h0
  · rw [addr_in (places_out h) (words_out h) (by omega) (by omega) (by omega), if_pos (by omega)]

theorem addr_cases (s p c : Int) : geom_Addr.f s p c = some 0 ∨ ∃ W P : Int, geom_Words.f c = some W ∧ geom_Places.f c = some P ∧ 1 ≤ s ∧ s < 512 ∧ 0 ≤ p ∧ p < P ∧ 0 < W ∧ 0 ≤ p * W ∧ p * W + W ≤ 64 ∧ geom_Addr.f s p c = some (s * 64 + p * W) := by
  by_cases h0 : s < 1 ∨ 512 ≤ s ∨ p < 0
  · exact .inl (addr_low h0)
  · rcases six c with hc | hc
    · exact .inl (addr_out hc)
    · have key : ∀ P W : Int, geom_Places.f c = some P → geom_Words.f c = some W → 0 < W → (∀ p : Int, 0 ≤ p → p < P → 0 ≤ p * W ∧ p * W + W ≤ 64) → geom_Addr.f s p c = some 0 ∨ ∃ W P : Int, geom_Words.f c = some W ∧ geom_Places.f c = some P ∧ 1 ≤ s ∧ s < 512 ∧ 0 ≤ p ∧ p < P ∧ 0 < W ∧ 0 ≤ p * W ∧ p * W + W ≤ 64 ∧ geom_Addr.f s p c = some (s * 64 + p * W) := by
        intro P W hP hW h1 h4
        rw [addr_in hP hW (by omega) (by omega) (by omega)]
        by_cases hpP : p ≥ P
        · rw [if_pos hpP]; exact .inl rfl
        · rw [if_neg hpP]
          obtain ⟨k1, k2⟩ := h4 p (by omega) (by omega)
          have e1 : wrap64 (s * 64) = s * 64 := wrap_id (by omega) (by omega)
          have e2 : wrap64 (p * W) = p * W := wrap_id (by omega) (by omega)
          have e3 : wrap64 (s * 64 + p * W) = s * 64 + p * W := wrap_id (by omega) (by omega)
          rw [e1, e2, e3]
          exact .inr ⟨W, P, hW, hP, by omega, by omega, by omega, by omega, h1, k1, k2, rfl⟩
      rcases hc with rfl | rfl | rfl | rfl | rfl | rfl
      · exact key _ _ places_0 words_0 (by omega) (by intro p _ _; omega)
      · exact key _ _ places_1 words_1 (by omega) (by intro p _ _; omega)
      · exact key _ _ places_2 words_2 (by omega) (by intro p _ _; omega)
      · exact key _ _ places_3 words_3 (by omega) (by intro p _ _; omega)
      · exact key _ _ places_4 words_4 (by omega) (by intro p _ _; omega)
      · exact key _ _ places_5 words_5 (by omega) (by intro p _ _; omega)
theorem j0_true (a b c d : Int) : gantlinelaw2_GeomApart.j0 9 a b c d true = some true := by simp [gantlinelaw2_GeomApart.j0]
theorem GeomApart : gantlinelaw2_GeomApart.Pure := by
  intro s p c t q d _ _ _ _ _ _
  refine ⟨9, ?_⟩
  unfold gantlinelaw2_GeomApart.f
  rw [awake (k := 0)]
  simp only [Option.bind_some, if_true]
  rcases addr_cases s p c with h | ⟨W, P, hW, hP, g1, g2, g3, g4, g5, g6, g7, h⟩
  · rw [h]
    rcases addr_cases t q d with h' | ⟨W', P', hW', hP', g1', g2', g3', g4', g5', g6', g7', h'⟩
    · rw [h']; simp [j0_true]
    · rw [h']; simp [j0_true]
  · rw [h]
    rcases addr_cases t q d with h' | ⟨W', P', hW', hP', g1', g2', g3', g4', g5', g6', g7', h'⟩
    · rw [h']; simp [j0_true]
    · rw [h']
      simp only [Option.bind_some]
      rw [if_neg (by omega), if_neg (by omega)]
      by_cases he : s * 64 + p * W = t * 64 + q * W'
      · rw [if_pos he, j0_true]
      · rw [if_neg he]
        have e1 : wrap64 (s * 64 + p * W + W) = s * 64 + p * W + W := wrap_id (by omega) (by omega)
        have e2 : wrap64 (t * 64 + q * W' + W') = t * 64 + q * W' + W' := wrap_id (by omega) (by omega)
        have last : (s = t → c = d) → gantlinelaw2_GeomApart.j0 9 c d (s * 64 + p * W) (t * 64 + q * W') false = some true := by
          intro hsc
          simp only [gantlinelaw2_GeomApart.j0, Bool.false_eq_true, if_false, hW, hW', Option.bind_some, e1, e2]
          by_cases hst : s = t
          · obtain rfl := hsc hst
            obtain rfl : W = W' := Option.some.inj (hW.symm.trans hW')
            subst hst
            by_cases hpq : p < q
            · have : (p + 1) * W ≤ q * W := Int.mul_le_mul_of_nonneg_right (by omega) (by omega)
              rw [Int.add_mul, Int.one_mul] at this
              rw [if_pos (by omega)]
            · by_cases hpq' : q < p
              · have : (q + 1) * W ≤ p * W := Int.mul_le_mul_of_nonneg_right (by omega) (by omega)
                rw [Int.add_mul, Int.one_mul] at this
                rw [if_neg (by omega)]
                simp; omega
              · obtain rfl : p = q := by omega
                exact absurd rfl he
          · by_cases hlt : s < t
            · rw [if_pos (by omega)]
            · rw [if_neg (by omega)]
              simp; omega
        by_cases hst : s = t
        · rw [if_pos hst]
          by_cases hcd : c = d
          · have : (c != d) = false := by simp [hcd]
            rw [this]
            exact last fun _ => hcd
          · have : (c != d) = true := by simp [hcd]
            rw [this, j0_true]
        · rw [if_neg hst]
          exact last fun h => absurd h hst
end Go.Proofs.Ytclblekgjhcgoaa.Pure
