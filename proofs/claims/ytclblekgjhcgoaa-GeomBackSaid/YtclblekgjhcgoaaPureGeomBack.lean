import Derived.Test.YtclblekgjhcgoaaPGeomBackx2
namespace Go.Proofs.Ytclblekgjhcgoaa.Pure
open Go Go.RowKit Go.Proofs.Ytclblekgjhcgoaa.PGeomBack Go.Proofs.YtclblekgjhcgoaaW.PrintWords Go.Proofs.YtclblekgjhcgoaaW.PrintLast Go.Proofs.YtclblekgjhcgoaaW.PrintMore
set_option linter.unusedVariables false
set_option linter.unusedSimpArgs false
theorem words_out {a : Int} (h : a < 0 ∨ 6 ≤ a) : geom_Words.f a = some 0 := by
  unfold geom_Words.f
  by_cases h0 : a < 0
  · rw [if_pos h0]
  · rw [if_neg h0, if_pos (by omega)]
theorem words_0 : geom_Words.f 0 = some 2 := by decide +kernel
theorem words_1 : geom_Words.f 1 = some 4 := by decide +kernel
theorem words_2 : geom_Words.f 2 = some 8 := by decide +kernel
theorem words_3 : geom_Words.f 3 = some 16 := by decide +kernel
theorem words_4 : geom_Words.f 4 = some 32 := by decide +kernel
theorem words_5 : geom_Words.f 5 = some 64 := by decide +kernel
theorem places_out {a : Int} (h : a < 0 ∨ 6 ≤ a) : geom_Places.f a = some 0 := by
  simp [geom_Places.f, words_out h]
theorem places_0 : geom_Places.f 0 = some 32 := by decide +kernel
theorem places_1 : geom_Places.f 1 = some 16 := by decide +kernel
theorem places_2 : geom_Places.f 2 = some 8 := by decide +kernel
theorem places_3 : geom_Places.f 3 = some 4 := by decide +kernel
theorem places_4 : geom_Places.f 4 = some 2 := by decide +kernel
theorem places_5 : geom_Places.f 5 = some 1 := by decide +kernel
theorem awake {k : Nat} : gantlinelaw2_awake.f 9 = some true := by decide +kernel
theorem six (a : Int) : (a < 0 ∨ 6 ≤ a) ∨ a = 0 ∨ a = 1 ∨ a = 2 ∨ a = 3 ∨ a = 4 ∨ a = 5 := by omega
theorem wrap_id {n : Int} (h : -9223372036854775808 ≤ n) (h' : n < 9223372036854775808) : wrap64 n = n := by unfold wrap64; omega
theorem lit64 {a : Int} (h : (Lit.int .i64 a).wf = true) : -9223372036854775808 ≤ a ∧ a < 9223372036854775808 := by
  have e1 : IntKind.i64.min = -9223372036854775808 := by decide +kernel
  have e2 : IntKind.i64.max = 9223372036854775807 := by decide +kernel
  simp [Lit.wf, e1, e2] at h
  omega
theorem addr_low {s p c : Int} (h : s < 1 ∨ 512 ≤ s ∨ p < 0) : geom_Addr.f s p c = some 0 := by
  unfold geom_Addr.f
  by_cases h1 : s < 1
  · rw [if_pos h1]
  · rw [if_neg h1]
    by_cases h2 : s ≥ 512
    · rw [if_pos h2]
    · rw [if_neg h2, if_pos (by omega)]
theorem addr_in {s p c P W : Int} (hP : geom_Places.f c = some P) (hW : geom_Words.f c = some W) (h1 : 1 ≤ s) (h2 : s < 512) (h3 : 0 ≤ p) :
    geom_Addr.f s p c = if p ≥ P then some 0 else some (wrap64 (wrap64 (s * 64) + wrap64 (p * W))) := by
  unfold geom_Addr.f
  rw [if_neg (by omega), if_neg (by omega), if_neg (by omega), hP]
  simp [hW]
theorem addr_out {s p c : Int} (h : c < 0 ∨ 6 ≤ c) : geom_Addr.f s p c = some 0 := by
  by_cases h0 : s < 1 ∨ 512 ≤ s ∨ p < 0
  · exact addr_low h0
  · rw [addr_in (places_out h) (words_out h) (by omega) (by omega) (by omega), if_pos (by omega)]
theorem span_in {a : Int} (h : 0 ≤ a) (h' : a < 32768) : geom_Span.f a = some (a / 64) := by
  unfold geom_Span.f
  rw [if_neg (by omega), if_neg (by omega), Int.tdiv_eq_ediv_of_nonneg h, wrap_id (by omega) (by omega)]
theorem place_in {a c W : Int} (hW : geom_Words.f c = some W) (h0 : 0 < W) (h : 0 ≤ a) (h' : a < 32768) :
    geom_Place.f 9 a c = if a % 64 % W = 0 then some (a % 64 / W) else some (-1) := by
  have hs := span_in h h'
  have h1 : ¬ W = 0 := by omega
  have h2 : (a / 64 == -1) = false := by simp; omega
  unfold geom_Place.f
  rw [hW]
  simp only [Option.bind_some, if_neg h1, hs, h2]
  simp only [geom_Place.j0, Bool.false_eq_true, if_false, hW, Option.bind_some, if_neg h1]
  rw [Int.tmod_eq_emod_of_nonneg h, Int.tmod_eq_emod_of_nonneg (by omega), Int.tdiv_eq_ediv_of_nonneg (by omega)]
  have h5 : 0 ≤ a % 64 / W := Int.ediv_nonneg (by omega) (by omega)
  have h6 : a % 64 / W < 9223372036854775808 := Int.lt_of_le_of_lt (Int.ediv_le_self _ (by omega)) (by omega)
  rw [wrap_id (by omega) h6]
theorem GeomBack : gantlinelaw2_GeomBack.Pure := by
  intro s p c _ hp _
  obtain ⟨hp1, hp2⟩ := lit64 hp
  refine ⟨9, ?_⟩
  unfold gantlinelaw2_GeomBack.f
  rw [awake (k := 0)]
  simp only [Option.bind_some, if_true]
  by_cases h0 : s < 1 ∨ 512 ≤ s ∨ p < 0
  · rw [addr_low h0]
    simp only [Option.bind_some, if_true]
    by_cases h1 : s < 1
    · rw [if_pos h1]
    · rw [if_neg h1]
      by_cases h2 : s > 511
      · rw [if_pos h2]
      · rw [if_neg h2, if_pos (by omega)]
  · rcases six c with hc | hc
    · rw [addr_out hc, places_out hc]
      simp only [Option.bind_some, if_true]
      rw [if_neg (by omega), if_neg (by omega), if_neg (by omega)]
      simp; omega
    · have key : ∀ P W : Int, geom_Places.f c = some P → geom_Words.f c = some W → 0 < W → wrap64 (W * P) = 64 → 0 < P → P ≤ 32 → (∀ p : Int, 0 ≤ p → p < P → 0 ≤ p * W ∧ p * W + W ≤ 64 ∧ (p * W) % W = 0 ∧ p * W / W = p) →
          ((geom_Addr.f s p c).bind fun t123 => (if t123 = 0 then (if s < 1 then (some true) else (if s > 511 then (some true) else (if p < 0 then (some true) else ((geom_Places.f c).bind fun t124 => (some (decide (p ≥ t124))))))) else ((geom_Addr.f s (wrap64 (p + 1)) c).bind fun t125 => ((geom_Span.f t123).bind fun t126 => (if t126 = s then ((geom_Place.f 9 t123 c).bind fun t127 => (if t127 = p then ((geom_Words.f c).bind fun t128 => ((geom_Places.f c).bind fun t129 => (if (wrap64 (t128 * t129)) = 64 then (if t125 = 0 then (some true) else ((geom_Words.f c).bind fun t130 => (some (t125 == (wrap64 (t123 + t130)))))) else (some false)))) else (some false))) else (some false)))))) = some true := by
        intro P W hP hW h1 h2 h3 h33 h4
        rw [addr_in hP hW (by omega) (by omega) (by omega)]
        by_cases hpP : p ≥ P
        · rw [if_pos hpP]
          simp only [Option.bind_some, if_true]
          rw [if_neg (by omega), if_neg (by omega), if_neg (by omega), hP]
          simp; omega
        · rw [if_neg hpP]
          obtain ⟨k1, k2, k3, k4⟩ := h4 p (by omega) (by omega)
          have e1 : wrap64 (s * 64) = s * 64 := wrap_id (by omega) (by omega)
          have e2 : wrap64 (p * W) = p * W := wrap_id (by omega) (by omega)
          have e3 : wrap64 (s * 64 + p * W) = s * 64 + p * W := wrap_id (by omega) (by omega)
          have e4 : wrap64 (p + 1) = p + 1 := wrap_id (by omega) (by omega)
          rw [e1, e2, e3, e4]
          simp only [Option.bind_some]
          rw [if_neg (by omega), addr_in hP hW (by omega) (by omega) (by omega), span_in (by omega) (by omega), place_in hW h1 (by omega) (by omega), hP, hW]
          have e5 : (s * 64 + p * W) / 64 = s := by omega
          have e6 : (s * 64 + p * W) % 64 = p * W := by omega
          rw [e5, e6, k3, k4]
          by_cases hq : p + 1 ≥ P
          · rw [if_pos hq]
            simp [h2]
          · rw [if_neg hq]
            have e7 : (p + 1) * W = p * W + W := by rw [Int.add_mul, Int.one_mul]
            have e8 : wrap64 (p * W + W) = p * W + W := wrap_id (by omega) (by omega)
            have e9 : wrap64 (s * 64 + (p * W + W)) = s * 64 + (p * W + W) := wrap_id (by omega) (by omega)
            have e10 : wrap64 (s * 64 + p * W + W) = s * 64 + (p * W + W) := by rw [Int.add_assoc, e9]
            rw [e7, e1, e8, e9]
            simp [e10, h2]
      rcases hc with rfl | rfl | rfl | rfl | rfl | rfl
      · exact key _ _ places_0 words_0 (by omega) (by decide +kernel) (by omega) (by omega) (by intro p _ _; omega)
      · exact key _ _ places_1 words_1 (by omega) (by decide +kernel) (by omega) (by omega) (by intro p _ _; omega)
      · exact key _ _ places_2 words_2 (by omega) (by decide +kernel) (by omega) (by omega) (by intro p _ _; omega)
      · exact key _ _ places_3 words_3 (by omega) (by decide +kernel) (by omega) (by omega) (by intro p _ _; omega)
      · exact key _ _ places_4 words_4 (by omega) (by decide +kernel) (by omega) (by omega) (by intro p _ _; omega)
      · exact key _ _ places_5 words_5 (by omega) (by decide +kernel) (by omega) (by omega) (by intro p _ _; omega)
end Go.Proofs.Ytclblekgjhcgoaa.Pure
