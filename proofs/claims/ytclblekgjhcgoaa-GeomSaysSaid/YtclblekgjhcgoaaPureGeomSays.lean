import Derived.Test.YtclblekgjhcgoaaPGeomSaysx2
namespace Go.Proofs.Ytclblekgjhcgoaa.Pure
open Go Go.RowKit Go.Proofs.Ytclblekgjhcgoaa.PGeomSays Go.Proofs.YtclblekgjhcgoaaW.PrintWords Go.Proofs.YtclblekgjhcgoaaW.PrintLast Go.Proofs.YtclblekgjhcgoaaW.PrintMore
set_option linter.unusedVariables false
set_option linter.unusedSimpArgs false
theorem words_out {a : Int} (h : a < 0 ∨ 6 ≤ a) : geom_Words.f a = some 0 := by
  unfold geom_Words.f
  by_cases h0 : a < 0
  · rw [if_pos h0]
  · rw [if_neg h0, if_pos (by omega)]
theorem words_0 : geom_Words.f 0 = some 2 := by decide +kernel
theorem words_1 : geom_Words.f 1 = some 4 := by decide +kernel
theorem words_2 : geom_Words.f 2 = some 8 := by decide +kernel
theorem words_3 : geom_Words.f 3 = some 16 := by decide +kernel
theorem words_4 : geom_Words.f 4 = some 32 := by decide +kernel
theorem words_5 : geom_Words.f 5 = some 64 := by decide +kernel
theorem places_out {a : Int} (h : a < 0 ∨ 6 ≤ a) : geom_Places.f a = some 0 := by
  simp [geom_Places.f, words_out h]
theorem places_0 : geom_Places.f 0 = some 32 := by decide +kernel
theorem places_1 : geom_Places.f 1 = some 16 := by decide +kernel
theorem places_2 : geom_Places.f 2 = some 8 := by decide +kernel
theorem places_3 : geom_Places.f 3 = some 4 := by decide +kernel
theorem places_4 : geom_Places.f 4 = some 2 := by decide +kernel
theorem places_5 : geom_Places.f 5 = some 1 := by decide +kernel
theorem awake {k : Nat} : gantlinelaw2_awake.f 9 = some true := by decide +kernel
theorem six (a : Int) : (a < 0 ∨ 6 ≤ a) ∨ a = 0 ∨ a = 1 ∨ a = 2 ∨ a = 3 ∨ a = 4 ∨ a = 5 := by omega
theorem wrap_id {n : Int} (h : -9223372036854775808 ≤ n) (h' : n < 9223372036854775808) : wrap64 n = n := by unfold wrap64; omega
theorem lit64 {a : Int} (h : (Lit.int .i64 a).wf = true) : -9223372036854775808 ≤ a ∧ a < 9223372036854775808 := by
  have e1 : IntKind.i64.min = -9223372036854775808 := by decide +kernel
  have e2 : IntKind.i64.max = 9223372036854775807 := by decide +kernel
  simp [Lit.wf, e1, e2] at h
  omega
theorem addr_low {s p c : Int} (h : s < 1 ∨ 512 ≤ s ∨ p < 0) : geom_Addr.f s p c = some 0 := by
  unfold geom_Addr.f
  by_cases h1 : s < 1
  · rw [if_pos h1]
  · rw [if_neg h1]
    by_cases h2 : s ≥ 512
    · rw [if_pos h2]
    · rw [if_neg h2, if_pos (by omega)]
theorem addr_in {s p c P W : Int} (hP : geom_Places.f c = some P) (hW : geom_Words.f c = some W) (h1 : 1 ≤ s) (h2 : s < 512) (h3 : 0 ≤ p) :
    geom_Addr.f s p c = if p ≥ P then some 0 else some (wrap64 (wrap64 (s * 64) + wrap64 (p * W))) := by
  unfold geom_Addr.f
  rw [if_neg (by omega), if_neg (by omega), if_neg (by omega), hP]
  simp [hW]
theorem addr_out {s p c : Int} (h : c < 0 ∨ 6 ≤ c) : geom_Addr.f s p c = some 0 := by
  by_cases h0 : s < 1 ∨ 512 ≤ s ∨ p < 0
  · exact addr_low h0
  · rw [addr_in (places_out h) (words_out h) (by omega) (by omega) (by omega), if_pos (by omega)]

theorem rwords_out {a : Int} (h : a < 0 ∨ 6 ≤ a) : gantlineref1_Words.f a = some 0 := by
  unfold gantlineref1_Words.f
  by_cases h0 : a < 0
  · rw [if_pos h0]
  · rw [if_neg h0, if_pos (by omega)]
theorem words_eq (a : Int) : gantlineref1_Words.f a = geom_Words.f a := by
  rcases six a with h | rfl | rfl | rfl | rfl | rfl | rfl
  · rw [rwords_out h, words_out h]
  all_goals decide +kernel
theorem rplaces_out {a : Int} (h : a < 0 ∨ 6 ≤ a) : gantlineref1_Places.f a = some 0 := by
  unfold gantlineref1_Places.f
  by_cases h0 : a < 0
  · rw [if_pos h0]
  · rw [if_neg h0, if_pos (by omega)]
theorem places_eq (a : Int) : gantlineref1_Places.f a = geom_Places.f a := by
  rcases six a with h | rfl | rfl | rfl | rfl | rfl | rfl
  · rw [rplaces_out h, places_out h]
  all_goals decide +kernel
theorem span_eq (a : Int) : gantlineref1_Span.f a = geom_Span.f a := rfl
theorem span_in {a : Int} (h : 0 ≤ a) (h' : a < 32768) : geom_Span.f a = some (a / 64) := by
  unfold geom_Span.f
  rw [if_neg (by omega), if_neg (by omega), Int.tdiv_eq_ediv_of_nonneg h, wrap_id (by omega) (by omega)]
theorem words_some (a : Int) : ∃ W, geom_Words.f a = some W := by
  rcases six a with h | rfl | rfl | rfl | rfl | rfl | rfl
  · exact ⟨_, words_out h⟩
  · exact ⟨_, words_0⟩
  · exact ⟨_, words_1⟩
  · exact ⟨_, words_2⟩
  · exact ⟨_, words_3⟩
  · exact ⟨_, words_4⟩
  · exact ⟨_, words_5⟩
theorem place_some (k : Nat) (a c : Int) : ∃ r, geom_Place.f (k + 1) a c = some r ∧ gantlineref1_Place.f a c = some r := by
  obtain ⟨W, hW⟩ := words_some c
  unfold geom_Place.f gantlineref1_Place.f
  rw [words_eq, hW]
  simp only [Option.bind_some, geom_Place.j0, hW, span_eq]
  by_cases h1 : W = 0
  · simp [h1]
  · simp only [if_neg h1]
    by_cases h0 : 0 ≤ a ∧ a < 32768
    · rw [span_in h0.1 h0.2]
      have h2 : (a / 64 == -1) = false := by simp; omega
      have h3 : ¬ a / 64 < 0 := by omega
      simp only [Option.bind_some, h2, if_neg h3, Bool.false_eq_true, if_false]
      split <;> exact ⟨_, rfl, rfl⟩
    · have hs : geom_Span.f a = some (-1) := by
        unfold geom_Span.f
        by_cases h4 : a < 0
        · rw [if_pos h4]
        · rw [if_neg h4, if_pos (by omega)]
      rw [hs]
      simp
theorem addr_eq (s p c : Int) : gantlineref1_Addr.f s p c = geom_Addr.f s p c := by
  have e : ((512 : Int) ≤ s) = (s > 511) := by simp; omega
  have e' : 64 * s = s * 64 := Int.mul_comm _ _
  unfold gantlineref1_Addr.f geom_Addr.f
  simp only [places_eq, words_eq, e', ge_iff_le, e]
theorem addr_some (s p c : Int) : ∃ r, geom_Addr.f s p c = some r := by
  obtain ⟨W, hW⟩ := words_some c
  have hP : ∃ P, geom_Places.f c = some P := by
    rcases six c with h | rfl | rfl | rfl | rfl | rfl | rfl
    · exact ⟨_, places_out h⟩
    · exact ⟨_, places_0⟩
    · exact ⟨_, places_1⟩
    · exact ⟨_, places_2⟩
    · exact ⟨_, places_3⟩
    · exact ⟨_, places_4⟩
    · exact ⟨_, places_5⟩
  obtain ⟨P, hP⟩ := hP
  by_cases h0 : s < 1 ∨ 512 ≤ s ∨ p < 0
  · exact ⟨_, addr_low h0⟩
  · rw [addr_in hP hW (by omega) (by omega) (by omega)]
    split <;> exact ⟨_, rfl⟩
theorem class_some (a : Int) : ∃ r, geom_Class.f 15 a = some r ∧ gantlineref1_Class.f 15 a = some r := by
  by_cases h1 : a < 1
  · have h' : ¬ a ≥ 1 := by omega
    exact ⟨-1, by simp [geom_Class.f, geom_Class.l0, h', wrap64], by simp [gantlineref1_Class.f, gantlineref1_Class.l0, gantlineref1_Class.j1, h', wrap64]⟩
  · by_cases h2 : 64 < a
    · have h' : a ≥ 1 := by omega
      have k1 : ¬ a ≤ 2 := by omega
      have k2 : ¬ a ≤ 4 := by omega
      have k3 : ¬ a ≤ 8 := by omega
      have k4 : ¬ a ≤ 16 := by omega
      have k5 : ¬ a ≤ 32 := by omega
      have k6 : ¬ a ≤ 64 := by omega
      exact ⟨-1, by simp [geom_Class.f, geom_Class.l0, h', wrap64, words_0, words_1, words_2, words_3, words_4, words_5, k1, k2, k3, k4, k5, k6], by simp [gantlineref1_Class.f, gantlineref1_Class.l0, gantlineref1_Class.j1, h', wrap64, words_eq, words_0, words_1, words_2, words_3, words_4, words_5, k1, k2, k3, k4, k5, k6]⟩
    · have all : ∀ n : Nat, n < 64 → ((geom_Class.f 15 ((n : Int) + 1)).isSome && (geom_Class.f 15 ((n : Int) + 1) == gantlineref1_Class.f 15 ((n : Int) + 1))) = true := by decide +kernel
      have := all (a - 1).toNat (by omega)
      rw [show (((a - 1).toNat : Nat) : Int) + 1 = a by omega] at this
      obtain ⟨e1, e2⟩ := Bool.and_eq_true_iff.mp this
      obtain ⟨r, hr⟩ := Option.isSome_iff_exists.mp e1
      exact ⟨r, hr, by rw [← eq_of_beq e2, hr]⟩
/-- What is said behind the loop. -/
theorem tail (k : Nat) (x0 x1 x2 x3 x4 x11 x12 P : Int) (hk : ∃ r, geom_Class.f k x0 = some r ∧ gantlineref1_Class.f k x0 = some r) (hk' : ∃ r, geom_Place.f k x2 x1 = some r ∧ gantlineref1_Place.f x2 x1 = some r) (hP : geom_Places.f x1 = some P) (hF : geom_Full.f x1 = some x11) (hx : P ≤ x12) :
    gantlinelaw2_GeomSays.l0 (k + 1) x0 x1 x2 x3 x4 x11 x12 = some true := by
  obtain ⟨c, c1, c2⟩ := hk
  obtain ⟨p, p1, p2⟩ := hk'
  obtain ⟨W, hW⟩ := words_some x1
  obtain ⟨A, hA⟩ := addr_some x3 x4 x1
  have hS : ∃ S, geom_Span.f x2 = some S := by unfold geom_Span.f; split; exact ⟨_, rfl⟩; split <;> exact ⟨_, rfl⟩
  obtain ⟨S, hS⟩ := hS
  have h1 : ¬ x12 < P := by omega
  simp only [gantlinelaw2_GeomSays.l0, places_eq, words_eq, span_eq, addr_eq, hP, Option.bind_some, if_neg h1, c1, c2, p1, p2, hW, hA, hS, hF, if_true]
  simp


def F (n : Nat) : Int := 2 ^ n - 1
theorem stepF : ∀ n : Nat, n < 32 → (Go.bits .or .u64 (F n) (shl .u64 1 (IntKind.u64.wrap (n : Int))) = F (n + 1) ∧ 0 ≤ IntKind.u64.wrap (n : Int)) := by decide +kernel
theorem loop {w c a s p : Int} {P : Nat} (hP : geom_Places.f c = some (P : Int)) (hF : geom_Full.f c = some (F P)) (h32 : P ≤ 32)
    (hcl : ∀ k, 15 ≤ k → ∃ r, geom_Class.f k w = some r ∧ gantlineref1_Class.f k w = some r) (hpl : ∀ k, 15 ≤ k → ∃ r, geom_Place.f k a c = some r ∧ gantlineref1_Place.f a c = some r) :
    ∀ m n : Nat, n + m = P → gantlinelaw2_GeomSays.l0 (15 + 1 + m) w c a s p (F n) (n : Int) = some true := by
  intro m
  induction m with
  | zero =>
    intro n hn
    obtain rfl : n = P := by omega
    exact tail 15 w c a s p _ _ _ (hcl 15 (by omega)) (hpl 15 (by omega)) hP hF (by omega)
  | succ m ih =>
    intro n hn
    obtain ⟨e1, e2⟩ := stepF n (by omega)
    have h1 : (n : Int) < (P : Int) := by omega
    have e3 : wrap64 ((n : Int) + 1) = ((n + 1 : Nat) : Int) := by rw [wrap_id (by omega) (by omega)]; omega
    have := ih (n + 1) (by omega)
    show gantlinelaw2_GeomSays.l0 (15 + 1 + m + 1) w c a s p (F n) (n : Int) = some true
    simp only [gantlinelaw2_GeomSays.l0, places_eq, hP, Option.bind_some, if_pos h1, if_pos e2, e1, e3]
    exact this
theorem GeomSays : gantlinelaw2_GeomSays.Pure := by
  intro w c a s p _ _ _ _ _
  have hcl : ∀ k, 15 ≤ k → ∃ r, geom_Class.f k w = some r ∧ gantlineref1_Class.f k w = some r := by
    intro k hk
    obtain ⟨j, rfl⟩ : ∃ j, k = 15 + j := ⟨k - 15, by omega⟩
    clear hk
    induction j with
    | zero => exact class_some w
    | succ j ih => obtain ⟨r, h1, h2⟩ := ih; exact ⟨r, geom_Class.mono _ _ _ h1, gantlineref1_Class.mono _ _ _ h2⟩
  have hpl : ∀ k, 15 ≤ k → ∃ r, geom_Place.f k a c = some r ∧ gantlineref1_Place.f a c = some r := by
    intro k hk
    obtain ⟨k, rfl⟩ : ∃ j, k = j + 1 := ⟨k - 1, by omega⟩
    exact place_some k a c
  have key : ∀ P : Nat, P ≤ 32 → geom_Places.f c = some (P : Int) → geom_Full.f c = some (F P) → ∃ k, gantlinelaw2_GeomSays.f k w c a s p = some true := by
    intro P h32 hP hF
    have h := loop (s := s) (p := p) hP hF h32 hcl hpl P 0 (by omega)
    have hm : ∀ j, gantlinelaw2_awake.f (9 + j) = some true := by
      intro j
      induction j with
      | zero => exact awake (k := 0)
      | succ j ih => exact gantlinelaw2_awake.mono _ _ ih
    refine ⟨15 + 1 + P, ?_⟩
    unfold gantlinelaw2_GeomSays.f
    rw [show 15 + 1 + P = 9 + (7 + P) by omega, hm]
    simp only [Option.bind_some, if_true]
    rw [show 9 + (7 + P) = 15 + 1 + P by omega]
    exact h
  rcases six c with h | rfl | rfl | rfl | rfl | rfl | rfl
  · exact key 0 (by omega) (places_out h) (by unfold geom_Full.f; rw [places_out h]; decide +kernel)
  · exact key 32 (by omega) places_0 (by decide +kernel)
  · exact key 16 (by omega) places_1 (by decide +kernel)
  · exact key 8 (by omega) places_2 (by decide +kernel)
  · exact key 4 (by omega) places_3 (by decide +kernel)
  · exact key 2 (by omega) places_4 (by decide +kernel)
  · exact key 1 (by omega) places_5 (by decide +kernel)
end Go.Proofs.Ytclblekgjhcgoaa.Pure
