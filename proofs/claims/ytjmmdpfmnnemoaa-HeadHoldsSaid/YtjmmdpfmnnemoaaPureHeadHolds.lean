/- What HeadHolds comes to, in numbers alone. -/
import Derived.Test.YtjmmdpfmnnemoaaPHeadHoldsx2
import Derived.Test.YtjmmdpfmnnemoaaBits
namespace Go.Proofs.Ytjmmdpfmnnemoaa.PHeadHolds
open Go Go.RowKit Go.Proofs.YtjmmdpfmnnemoaaW.PrintWords Go.Proofs.Ytjmmdpfmnnemoaa.Bits
set_option linter.unusedVariables false
set_option linter.unusedSimpArgs false
/-- A bit as a test. -/
def bitB (m f : Nat) : Bool := ((m / 2 ^ f &&& 1 : Nat) : Int) == 1
theorem bitB_out (m f : Nat) (hm : m < 2 ^ 64) (hf : 64 ≤ f) : bitB m f = false := by
  have : m / 2 ^ f = 0 := Nat.div_eq_of_lt (Nat.lt_of_lt_of_le hm (Nat.pow_le_pow_right (by omega) hf))
  unfold bitB
  rw [this]; rfl
theorem and1 (m f : Nat) (hm : m < 2 ^ 64) : Go.bits .and .u64 (shr .u64 m f) 1 = ((m / 2 ^ f &&& 1 : Nat) : Int) := by
  rw [shr_nat m f hm, show (1 : Int) = ((1 : Nat) : Int) from rfl, and_nat _ _ (Nat.lt_of_le_of_lt (Nat.div_le_self _ _) hm) (by omega)]
theorem and1' (m : Nat) (hm : m < 2 ^ 64) : Go.bits .and .u64 m 1 = ((m / 2 ^ 0 &&& 1 : Nat) : Int) := by
  rw [show (1 : Int) = ((1 : Nat) : Int) from rfl, and_nat _ _ hm (by omega), Nat.pow_zero, Nat.div_one]
theorem u64_of_nat (n : Nat) (h : n < 2 ^ 64) : IntKind.u64.wrap (n : Int) = n := by rw [u64_wrap]; omega
theorem Bit_nat (m f : Nat) (hm : m < 2 ^ 64) : gantlineref1_Bit.f m f = some (bitB m f) := by
  unfold gantlineref1_Bit.f
  rw [if_pos (by omega)]
  by_cases h : f < 64
  · rw [if_pos (by omega), u64_of_nat f (by omega), if_pos (by omega), and1 m f hm]; rfl
  · rw [if_neg (by omega), bitB_out m f hm (by omega)]
/-- Which fields hold addresses. -/
def holdsB (k f m : Nat) : Bool := if k = 1 then bitB m 0 else if k = 3 then (bitB m 0 && decide (4 ≤ f)) else bitB m f
theorem ref_j0 (n k f m : Nat) (x : Int) (hm : m < 2 ^ 64) : gantlineref1_Holds.j0 (n + 1) f false k x m = some (holdsB k f m) := by
  rw [gantlineref1_Holds.j0, if_neg (by decide)]
  unfold holdsB
  by_cases h1 : k = 1
  · subst h1
    rw [if_pos (by rfl), if_pos rfl, show (0 : Int) = ((0 : Nat) : Int) from rfl, Bit_nat m 0 hm]; rfl
  · rw [if_neg (by omega), if_neg h1]
    by_cases h3 : k = 3
    · subst h3
      rw [if_pos (by rfl), if_pos rfl]
      by_cases h4 : 4 ≤ f
      · rw [if_pos (by omega), show (0 : Int) = ((0 : Nat) : Int) from rfl, Bit_nat m 0 hm, decide_eq_true h4, Bool.and_true]; rfl
      · rw [if_neg (by omega), decide_eq_false h4, Bool.and_false]
    · rw [if_neg (by omega), if_neg h3, Bit_nat m f hm]; rfl
theorem own_j1 (n k f m : Nat) (x : Int) (hm : m < 2 ^ 64) (hf : f < 2 ^ 63) (hk : k ≤ 3) : head_Shape_Holds.j1 (n + 1) f k ((k : Int) == 0 || (k : Int) == 2) k x m = some (holdsB k f m) := by
  rw [head_Shape_Holds.j1]
  unfold holdsB
  have hc : k = 0 ∨ k = 1 ∨ k = 2 ∨ k = 3 := by omega
  rcases hc with rfl | rfl | rfl | rfl
  · rw [if_pos (by decide), u64_of_nat f (by omega), if_pos (by omega), and1 m f hm, if_neg (by decide), if_neg (by decide)]; rfl
  · rw [if_neg (by decide), if_pos (by decide), and1' m hm, if_pos (by decide)]; rfl
  · rw [if_pos (by decide), u64_of_nat f (by omega), if_pos (by omega), and1 m f hm, if_neg (by decide), if_neg (by decide)]; rfl
  · rw [if_neg (by decide), if_neg (by decide), if_pos (by decide), and1' m hm]
    show _ = some (bitB m 0 && decide (4 ≤ f))
    unfold bitB
    by_cases h : ((m / 2 ^ 0 &&& 1 : Nat) : Int) = 1
    · rw [if_pos h, h]; simp; omega
    · rw [if_neg h, beq_eq_false_iff_ne.2 h, Bool.false_and]
theorem own_j0 (n k f m : Nat) (x : Int) (hm : m < 2 ^ 64) (hf : f < 2 ^ 63) (hk : k ≤ 3) : head_Shape_Holds.j0 (n + 2) f false k x m = some (holdsB k f m) := by
  have := own_j1 n k f m x hm hf hk
  rw [head_Shape_Holds.j0, if_neg (by decide)]
  by_cases h : (k : Int) = 0
  · rw [if_pos h]
    have e : ((k : Int) == 0) = true := by simpa using h
    rw [e, Bool.true_or] at this
    rw [e]; exact this
  · rw [if_neg h]
    have e : ((k : Int) == 0) = false := by simpa using h
    rw [e, Bool.false_or] at this
    exact this
theorem both_out (n : Nat) (k x m f : Int) : head_Shape_Holds.j0 (n + 2) f true k x m = some false ∧ gantlineref1_Holds.j0 (n + 2) f true k x m = some false := by
  rw [head_Shape_Holds.j0, gantlineref1_Holds.j0]; exact ⟨rfl, rfl⟩
theorem alike (k x m f w : Int) (hm : (Lit.int .u64 m).wf = true) (hf : f ≤ 9223372036854775807) (hw : -9223372036854775808 ≤ w ∧ w ≤ 9223372036854775807) (h0 : 0 ≤ k) (hk : k ≤ 3) : ∃ b, head_Shape_Holds.f 2 k x m f w = some b ∧ gantlineref1_Holds.f 2 k x m f w = some b := by
  obtain ⟨m, rfl, hm'⟩ := nat_of_wf hm
  unfold head_Shape_Holds.f gantlineref1_Holds.f
  by_cases h1 : f < 0
  · rw [if_pos h1, if_pos h1]; exact ⟨false, both_out 0 _ _ _ _⟩
  by_cases h2 : w < 2
  · rw [if_neg h1, if_neg h1, if_pos h2, if_pos h2]; exact ⟨false, both_out 0 _ _ _ _⟩
  rw [if_neg h1, if_neg h1, if_neg h2, if_neg h2]
  by_cases h3 : f > wrap64 (w - 2)
  · rw [decide_eq_true h3]; exact ⟨false, both_out 0 _ _ _ _⟩
  rw [decide_eq_false h3]
  obtain ⟨f, rfl⟩ : ∃ y : Nat, f = y := ⟨f.toNat, by omega⟩
  obtain ⟨k, rfl⟩ : ∃ y : Nat, k = y := ⟨k.toNat, by omega⟩
  exact ⟨_, own_j0 0 k f m x hm' (by omega) (by omega), ref_j0 1 k f m x hm'⟩
theorem good_kind (k x m : Int) (hm : (Lit.int .u64 m).wf = true) : head_Good.f 2 k x m = some false ∨ (head_Good.f 2 k x m = some true ∧ 0 ≤ k ∧ k ≤ 3) := by
  obtain ⟨m, rfl, hm⟩ := nat_of_wf hm
  have key : ∀ c : Bool, (c = true → k = 0 ∨ k = 2) → head_Good.j0 2 k c k x m = some false ∨ (head_Good.j0 2 k c k x m = some true ∧ 0 ≤ k ∧ k ≤ 3) := by
    intro c hc
    rw [head_Good.j0]
    by_cases h : c = true
    · have hk := hc h
      rw [if_pos h]
      by_cases h1 : x ≥ 0
      · by_cases h2 : x ≤ 63
        · have e : IntKind.u64.wrap x = x := by rw [u64_wrap]; omega
          rw [if_pos h1, if_pos h2, e, if_pos (by omega)]
          cases (shr .u64 (m : Int) x == 0)
          · exact .inl rfl
          · exact .inr ⟨rfl, by omega, by omega⟩
        · rw [if_pos h1, if_neg h2]; exact .inl rfl
      · rw [if_neg h1]; exact .inl rfl
    · rw [if_neg h]
      by_cases h1 : k = 1
      · rw [if_pos h1]
        by_cases h2 : x = 0
        · rw [if_pos h2]
          cases decide ((m : Int) ≤ 1)
          · exact .inl rfl
          · exact .inr ⟨rfl, by omega, by omega⟩
        · rw [if_neg h2]; exact .inl rfl
      · rw [if_neg h1]
        by_cases h3 : k = 3
        · rw [if_pos h3]
          by_cases h2 : x = 0
          · rw [if_pos h2]
            cases decide ((m : Int) ≤ 1)
            · exact .inl rfl
            · exact .inr ⟨rfl, by omega, by omega⟩
          · rw [if_neg h2]; exact .inl rfl
        · rw [if_neg h3]; exact .inl rfl
  unfold head_Good.f
  by_cases h : k = 0
  · rw [if_pos h]; exact key _ (fun hc => .inl (by simpa using hc))
  · rw [if_neg h]; exact key _ (fun hc => .inr (by simpa using hc))
theorem pure (k x m f w : Int) (hm : (Lit.int .u64 m).wf = true) (hf : f ≤ 9223372036854775807) (hw : -9223372036854775808 ≤ w ∧ w ≤ 9223372036854775807) : gantlinelaw3_HeadHolds.f 2 k x m f w = some true := by
  unfold gantlinelaw3_HeadHolds.f gantlinelaw3_awake.f gantlinelaw3_own.f
  rw [Option.bind_some, if_pos rfl]
  rcases good_kind k x m hm with h | ⟨h, h0, hk⟩
  · rw [h]; rfl
  · obtain ⟨b, h1, h2⟩ := alike k x m f w hm hf hw h0 hk
    rw [h, Option.bind_some, if_pos rfl, h1, Option.bind_some, Option.bind_some]
    dsimp only
    rw [h2, Option.bind_some, beq_self_eq_true]
theorem walk (k x m f n : Int) (w : World) (h0 : (Lit.int .i64 k).wf = true) (h1 : (Lit.int .i64 x).wf = true) (h2 : (Lit.int .u64 m).wf = true) (h3 : (Lit.int .i64 f).wf = true) (h4 : (Lit.int .i64 n).wf = true) : Calls Try.prog 6 #[.agg #[.int .i64 k, .int .i64 x, .int .u64 m], .int .i64 f, .int .i64 n] w fun e w' => e = .returned (.bool true) ∧ Below w.heap.size w w' :=
  gantlinelaw3_HeadHolds.calls 2 _ _ _ _ _ true w (pure k x m f n h2 (i64_of_wf h3).2 (i64_of_wf h4))
end Go.Proofs.Ytjmmdpfmnnemoaa.PHeadHolds
