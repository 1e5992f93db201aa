/- Maps of 64 bits as natural numbers: what the machine's operations on u64 are, bit by bit. -/
import Derived.Test.YtjmmdpfmnnemoaaWMore
import Derived.Laws.BitsLemmas
namespace Go.Proofs.Ytjmmdpfmnnemoaa.Bits
open Go Go.RowKit Go.Proofs.YtjmmdpfmnnemoaaW.PrintWords
set_option linter.unusedVariables false
set_option linter.unusedSimpArgs false

theorem u64_wrap (n : Int) : IntKind.u64.wrap n = n % 18446744073709551616 := by simp [IntKind.wrap, IntKind.bits, IntKind.signed]
theorem i64_wrap (n : Int) : IntKind.i64.wrap n = (n + 9223372036854775808) % 18446744073709551616 - 9223372036854775808 := IntKind.wrap_i64 n

theorem ofInt_nat (a : Nat) : (BitVec.ofInt 64 (a : Int)) = BitVec.ofNat 64 a := by simp
theorem lt64 {a : Nat} (h : a < 2 ^ 64) : a % 2 ^ 64 = a := Nat.mod_eq_of_lt h

theorem and_nat (a b : Nat) (ha : a < 2 ^ 64) (hb : b < 2 ^ 64) : Go.bits .and .u64 a b = ((a &&& b : Nat) : Int) := by
  have e : Go.bits .and .u64 a b = IntKind.u64.wrap ((BitVec.ofInt 64 (a : Int) &&& BitVec.ofInt 64 (b : Int)).toNat : Int) := rfl
  rw [e, ofInt_nat, ofInt_nat, BitVec.toNat_and, BitVec.toNat_ofNat, BitVec.toNat_ofNat, lt64 ha, lt64 hb, u64_wrap]
  have : a &&& b < 2 ^ 64 := Nat.lt_of_le_of_lt Nat.and_le_left ha
  omega
theorem or_nat (a b : Nat) (ha : a < 2 ^ 64) (hb : b < 2 ^ 64) : Go.bits .or .u64 a b = ((a ||| b : Nat) : Int) := by
  have e : Go.bits .or .u64 a b = IntKind.u64.wrap ((BitVec.ofInt 64 (a : Int) ||| BitVec.ofInt 64 (b : Int)).toNat : Int) := rfl
  rw [e, ofInt_nat, ofInt_nat, BitVec.toNat_or, BitVec.toNat_ofNat, BitVec.toNat_ofNat, lt64 ha, lt64 hb, u64_wrap]
  have : a ||| b < 2 ^ 64 := Nat.or_lt_two_pow ha hb
  omega
theorem xor_nat (a b : Nat) (ha : a < 2 ^ 64) (hb : b < 2 ^ 64) : Go.bits .xor .u64 a b = ((a ^^^ b : Nat) : Int) := by
  have e : Go.bits .xor .u64 a b = IntKind.u64.wrap ((BitVec.ofInt 64 (a : Int) ^^^ BitVec.ofInt 64 (b : Int)).toNat : Int) := rfl
  rw [e, ofInt_nat, ofInt_nat, BitVec.toNat_xor, BitVec.toNat_ofNat, BitVec.toNat_ofNat, lt64 ha, lt64 hb, u64_wrap]
  have : a ^^^ b < 2 ^ 64 := Nat.xor_lt_two_pow ha hb
  omega
/-- The turn of a map. -/
def turn (b : Nat) : Nat := 18446744073709551615 - b
theorem turn_bit (b i : Nat) (hb : b < 2 ^ 64) : (turn b).testBit i = (decide (i < 64) && !b.testBit i) := by
  have : turn b = 2 ^ 64 - (b + 1) := by unfold turn; omega
  rw [this, Nat.testBit_two_pow_sub_succ hb]
theorem andNot_nat (a b : Nat) (ha : a < 2 ^ 64) (hb : b < 2 ^ 64) : Go.bits .andNot .u64 a b = ((a &&& turn b : Nat) : Int) := by
  have e : Go.bits .andNot .u64 a b = IntKind.u64.wrap ((BitVec.ofInt 64 (a : Int) &&& ~~~BitVec.ofInt 64 (b : Int)).toNat : Int) := rfl
  rw [e, ofInt_nat, ofInt_nat, BitVec.toNat_and, BitVec.toNat_not, BitVec.toNat_ofNat, BitVec.toNat_ofNat, lt64 ha, lt64 hb, u64_wrap]
  have h2 : 2 ^ 64 - 1 - b = turn b := by unfold turn; omega
  rw [h2]
  have : a &&& turn b < 2 ^ 64 := Nat.lt_of_le_of_lt Nat.and_le_left ha
  omega
theorem cast_mul_pow (a n : Nat) : (a : Int) * 2 ^ n = ((a * 2 ^ n : Nat) : Int) := by rw [Int.natCast_mul, Int.natCast_pow]; rfl
theorem cast_pow (n : Nat) : (2 : Int) ^ n = ((2 ^ n : Nat) : Int) := by rw [Int.natCast_pow]; rfl
theorem shl_nat (a n : Nat) : shl .u64 a n = ((a * 2 ^ n % 2 ^ 64 : Nat) : Int) := by
  simp only [shl, IntKind.bits, u64_wrap, Int.toNat_natCast]
  by_cases h : n ≤ 64
  · rw [Nat.min_eq_left h]
    rw [cast_mul_pow]; omega
  · rw [Nat.min_eq_right (by omega)]
    have h1 : a * 2 ^ n % 2 ^ 64 = 0 := by
      obtain ⟨k, rfl⟩ : ∃ k, n = 64 + k := ⟨n - 64, by omega⟩
      rw [Nat.pow_add, ← Nat.mul_assoc, Nat.mul_right_comm]
      exact Nat.mul_mod_left _ _
    rw [h1]
    rw [cast_mul_pow]
    omega
theorem shr_nat (a n : Nat) (ha : a < 2 ^ 64) : shr .u64 a n = ((a / 2 ^ n : Nat) : Int) := by
  simp only [shr, IntKind.bits, Int.toNat_natCast]
  by_cases h : n ≤ 64
  · rw [Nat.min_eq_left h, cast_pow]; rfl
  · rw [Nat.min_eq_right (by omega)]
    have h1 : a / 2 ^ n = 0 := Nat.div_eq_of_lt (Nat.lt_of_lt_of_le ha (Nat.pow_le_pow_right (by omega) (by omega)))
    have h2 : (a : Int) / 2 ^ 64 = 0 := by
      have := Nat.div_eq_of_lt ha
      rw [cast_pow]
      omega
    rw [h1, h2]; rfl
theorem shl_bit (a n i : Nat) : (a * 2 ^ n % 2 ^ 64).testBit i = (decide (i < 64) && (decide (n ≤ i) && a.testBit (i - n))) := by
  rw [Nat.testBit_mod_two_pow, Nat.testBit_mul_two_pow]
theorem shr_bit (a n i : Nat) : (a / 2 ^ n).testBit i = a.testBit (n + i) := by
  rw [← Nat.shiftRight_eq_div_pow, Nat.testBit_shiftRight]
theorem mask_nat (n : Nat) (h : n ≤ 64) : IntKind.u64.wrap (shl .u64 1 n - 1) = ((2 ^ n - 1 : Nat) : Int) := by
  have := shl_nat 1 n
  rw [show ((1 : Nat) : Int) = 1 from rfl] at this
  rw [this, u64_wrap]
  by_cases h64 : n = 64
  · subst h64; decide
  · have h1 : 2 ^ n < 2 ^ 64 := Nat.pow_lt_pow_right (by omega) (by omega)
    have h2 : 0 < 2 ^ n := Nat.two_pow_pos n
    rw [Nat.one_mul, Nat.mod_eq_of_lt h1]
    omega
theorem mask_bit (n i : Nat) : (2 ^ n - 1).testBit i = decide (i < n) := Nat.testBit_two_pow_sub_one n i
theorem mask_lt (n : Nat) (h : n ≤ 64) : 2 ^ n - 1 < 2 ^ 64 := by
  have h1 : 2 ^ n ≤ 2 ^ 64 := Nat.pow_le_pow_right (by omega) h
  have h2 : 0 < 2 ^ n := Nat.two_pow_pos n
  omega
/-- A run of a map's bits. -/
def fieldN (w at_ n : Nat) : Nat := w / 2 ^ at_ &&& (2 ^ n - 1)
def withN (w at_ n v : Nat) : Nat := (w &&& turn ((2 ^ n - 1) * 2 ^ at_ % 2 ^ 64)) ||| ((v &&& (2 ^ n - 1)) * 2 ^ at_ % 2 ^ 64)
theorem fieldN_bit (w at_ n i : Nat) : (fieldN w at_ n).testBit i = (w.testBit (at_ + i) && decide (i < n)) := by
  simp only [fieldN, Nat.testBit_and, shr_bit, mask_bit]
theorem withN_bit (w at_ n v i : Nat) (hw : w < 2 ^ 64) : (withN w at_ n v).testBit i = (decide (i < 64) && (if at_ ≤ i ∧ i < at_ + n then v.testBit (i - at_) else w.testBit i)) := by
  simp only [withN, Nat.testBit_or, Nat.testBit_and]
  rw [turn_bit _ _ (Nat.mod_lt _ (Nat.two_pow_pos 64))]
  simp only [shl_bit, Nat.testBit_and, mask_bit]
  by_cases h : i < 64
  · by_cases h1 : at_ ≤ i
    · by_cases h2 : i < at_ + n
      · have h3 : i - at_ < n := by omega
        simp [h, h1, h2, h3]
      · have h3 : ¬ i - at_ < n := by omega
        simp [h, h1, h2, h3]
    · simp [h, h1]
  · simp [h]
theorem withN_lt (w at_ n v : Nat) (hw : w < 2 ^ 64) : withN w at_ n v < 2 ^ 64 :=
  Nat.or_lt_two_pow (Nat.lt_of_le_of_lt Nat.and_le_left hw) (Nat.mod_lt _ (Nat.two_pow_pos 64))
theorem fieldN_lt (w at_ n : Nat) : fieldN w at_ n < 2 ^ n :=
  Nat.lt_of_le_of_lt Nat.and_le_right (by have := Nat.two_pow_pos n; omega)
theorem fieldN_eq (w at_ n : Nat) : fieldN w at_ n = w / 2 ^ at_ % 2 ^ n := by
  unfold fieldN; exact Nat.and_two_pow_sub_one_eq_mod _ _
theorem nat_of_wf {x : Int} (h : (Lit.int .u64 x).wf = true) : ∃ a : Nat, x = a ∧ a < 2 ^ 64 := by
  simp [Lit.wf, IntKind.min, IntKind.max, IntKind.bits, IntKind.signed] at h
  exact ⟨x.toNat, by omega, by omega⟩
theorem i64_of_wf {x : Int} (h : (Lit.int .i64 x).wf = true) : -9223372036854775808 ≤ x ∧ x ≤ 9223372036854775807 := by
  simp [Lit.wf, IntKind.min, IntKind.max, IntKind.bits, IntKind.signed] at h
  omega
end Go.Proofs.Ytjmmdpfmnnemoaa.Bits
