import Derived.Test.YtclblekgjhcgoaaPGeomLeastx2
namespace Go.Proofs.Ytclblekgjhcgoaa.Pure
open Go Go.RowKit Go.Proofs.Ytclblekgjhcgoaa.PGeomLeast Go.Proofs.YtclblekgjhcgoaaW.PrintWords Go.Proofs.YtclblekgjhcgoaaW.PrintLast Go.Proofs.YtclblekgjhcgoaaW.PrintMore
set_option linter.unusedVariables false
set_option linter.unusedSimpArgs false
theorem words_out {a : Int} (h : a < 0 ∨ 6 ≤ a) : geom_Words.f a = some 0 := by
  unfold geom_Words.f
  by_cases h0 : a < 0
  · rw [if_pos h0]
  · rw [if_neg h0, if_pos (by omega)]
theorem words_0 : geom_Words.f 0 = some 2 := by decide +kernel
theorem words_1 : geom_Words.f 1 = some 4 := by decide +kernel
theorem words_2 : geom_Words.f 2 = some 8 := by decide +kernel
theorem words_3 : geom_Words.f 3 = some 16 := by decide +kernel
theorem words_4 : geom_Words.f 4 = some 32 := by decide +kernel
theorem words_5 : geom_Words.f 5 = some 64 := by decide +kernel
theorem places_out {a : Int} (h : a < 0 ∨ 6 ≤ a) : geom_Places.f a = some 0 := by
  simp [geom_Places.f, words_out h]
theorem places_0 : geom_Places.f 0 = some 32 := by decide +kernel
theorem places_1 : geom_Places.f 1 = some 16 := by decide +kernel
theorem places_2 : geom_Places.f 2 = some 8 := by decide +kernel
theorem places_3 : geom_Places.f 3 = some 4 := by decide +kernel
theorem places_4 : geom_Places.f 4 = some 2 := by decide +kernel
theorem places_5 : geom_Places.f 5 = some 1 := by decide +kernel
theorem awake {k : Nat} : gantlinelaw2_awake.f 9 = some true := by decide +kernel
theorem six (a : Int) : (a < 0 ∨ 6 ≤ a) ∨ a = 0 ∨ a = 1 ∨ a = 2 ∨ a = 3 ∨ a = 4 ∨ a = 5 := by omega
theorem wrap_id {n : Int} (h : -9223372036854775808 ≤ n) (h' : n < 9223372036854775808) : wrap64 n = n := by unfold wrap64; omega
theorem lit64 {a : Int} (h : (Lit.int .i64 a).wf = true) : -9223372036854775808 ≤ a ∧ a < 9223372036854775808 := by
  have e1 : IntKind.i64.min = -9223372036854775808 := by decide +kernel
  have e2 : IntKind.i64.max = 9223372036854775807 := by decide +kernel
  simp [Lit.wf, e1, e2] at h
  omega
theorem class_low {a : Int} (h : a < 1) : geom_Class.f 9 a = some (-1) := by
  have h' : ¬ a ≥ 1 := by omega
  simp [geom_Class.f, geom_Class.l0, h', wrap64]
theorem class_high {a : Int} (h : 64 < a) : geom_Class.f 9 a = some (-1) := by
  have h' : a ≥ 1 := by omega
  have h1 : ¬ a ≤ 2 := by omega
  have h2 : ¬ a ≤ 4 := by omega
  have h3 : ¬ a ≤ 8 := by omega
  have h4 : ¬ a ≤ 16 := by omega
  have h5 : ¬ a ≤ 32 := by omega
  have h6 : ¬ a ≤ 64 := by omega
  simp [geom_Class.f, geom_Class.l0, h', wrap64, words_0, words_1, words_2, words_3, words_4, words_5, h1, h2, h3, h4, h5, h6]
theorem all64 : ∀ n : Nat, n < 64 → gantlinelaw2_GeomLeast.f 9 ((n : Int) + 1) = some true := by decide +kernel
theorem GeomLeast : gantlinelaw2_GeomLeast.Pure := by
  intro a _
  refine ⟨9, ?_⟩
  by_cases h1 : a < 1
  · simp [gantlinelaw2_GeomLeast.f, awake (k := 0), class_low h1, h1, gantlinelaw2_GeomLeast.j0]
  · by_cases h2 : 64 < a
    · simp [gantlinelaw2_GeomLeast.f, awake (k := 0), class_high h2, h1, h2, gantlinelaw2_GeomLeast.j0]
    · have := all64 (a - 1).toNat (by omega)
      rwa [show (((a - 1).toNat : Nat) : Int) + 1 = a by omega] at this
end Go.Proofs.Ytclblekgjhcgoaa.Pure
