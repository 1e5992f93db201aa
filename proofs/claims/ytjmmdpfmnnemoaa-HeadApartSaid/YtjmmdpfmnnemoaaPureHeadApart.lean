/- What HeadApart comes to, in numbers alone. -/
import Derived.Test.YtjmmdpfmnnemoaaPHeadApartx3
import Derived.Test.YtjmmdpfmnnemoaaBits
namespace Go.Proofs.Ytjmmdpfmnnemoaa.PHeadApart
open Go Go.RowKit Go.Proofs.YtjmmdpfmnnemoaaW.PrintWords Go.Proofs.Ytjmmdpfmnnemoaa.Bits
set_option linter.unusedVariables false
set_option linter.unusedSimpArgs false
theorem u64_of_nat (n : Nat) (h : n < 2 ^ 64) : IntKind.u64.wrap (n : Int) = n := by rw [u64_wrap]; omega
theorem within_nat (a n : Nat) (h : a + n ≤ 64) : bits_within.f a n = some true := by
  unfold bits_within.f
  have hw : wrap64 (64 - (n : Int)) = 64 - n := by unfold wrap64; omega
  rw [if_pos (by omega), if_pos (by omega), if_pos (by omega), hw, decide_eq_true (by omega)]
theorem mask_nat' (n : Nat) (h : n ≤ 64) : bits_mask.f n = some ((2 ^ n - 1 : Nat) : Int) := by
  unfold bits_mask.f
  rw [u64_of_nat n (by omega), if_pos (by omega), mask_nat n h]
theorem With_nat (w a n v : Nat) (hw : w < 2 ^ 64) (hv : v < 2 ^ 64) (h : a + n ≤ 64) : bits_With.f w a n v = some ((withN w a n v : Nat) : Int) := by
  unfold bits_With.f
  have hm := mask_lt n (by omega)
  rw [within_nat a n h, Option.bind_some, if_pos rfl, mask_nat' n (by omega), Option.bind_some, u64_of_nat a (by omega), if_pos (by omega), Option.bind_some, shl_nat,
    andNot_nat _ _ hw (Nat.mod_lt _ (Nat.two_pow_pos 64)), and_nat _ _ hv hm, shl_nat, or_nat _ _ (Nat.lt_of_le_of_lt Nat.and_le_left hw) (Nat.mod_lt _ (Nat.two_pow_pos 64))]
  rfl
theorem Field_nat (w a n : Nat) (hw : w < 2 ^ 64) (h : a + n ≤ 64) : bits_Field.f w a n = some ((fieldN w a n : Nat) : Int) := by
  unfold bits_Field.f
  have hm := mask_lt n (by omega)
  rw [within_nat a n h, Option.bind_some, if_pos rfl, u64_of_nat a (by omega), if_pos (by omega), mask_nat' n (by omega), Option.bind_some, shr_nat _ _ hw,
    and_nat _ _ (Nat.lt_of_le_of_lt (Nat.div_le_self _ _) hw) hm]
  rfl
/-- A head's word. -/
theorem word_nat (a b c : Nat) (ha : a < 128) (hb : b < 8) (hc : c < 65536) : withN (withN a 7 3 b) 10 16 c = a + 128 * b + 1024 * c := by
  have h1 : withN a 7 3 b = 2 ^ 7 * b + a := by
    refine Nat.eq_of_testBit_eq fun i => ?_
    rw [withN_bit _ _ _ _ _ (by omega), Nat.testBit_two_pow_mul_add _ (by omega)]
    by_cases h : i < 7
    · rw [if_neg (by omega), if_pos h, decide_eq_true (show i < 64 by omega), Bool.true_and]
    · rw [if_neg h]
      by_cases h2 : i < 10
      · rw [if_pos (by omega), decide_eq_true (show i < 64 by omega), Bool.true_and]
      · rw [if_neg (by omega)]
        have e1 : a.testBit i = false := Nat.testBit_lt_two_pow (Nat.lt_of_lt_of_le ha (by have : 2 ^ 7 ≤ 2 ^ i := Nat.pow_le_pow_right (by omega) (by omega); omega))
        have e2 : b.testBit (i - 7) = false := Nat.testBit_lt_two_pow (Nat.lt_of_lt_of_le hb (by have : 2 ^ 3 ≤ 2 ^ (i - 7) := Nat.pow_le_pow_right (by omega) (by omega); omega))
        rw [e1, e2, Bool.and_false]
  rw [h1]
  refine Nat.eq_of_testBit_eq fun i => ?_
  have hx : 2 ^ 7 * b + a < 2 ^ 10 := by omega
  rw [show a + 128 * b + 1024 * c = 2 ^ 10 * c + (2 ^ 7 * b + a) by omega, withN_bit _ _ _ _ _ (by omega), Nat.testBit_two_pow_mul_add _ hx]
  by_cases h : i < 10
  · rw [if_neg (by omega), if_pos h, decide_eq_true (show i < 64 by omega), Bool.true_and]
  · rw [if_neg h]
    by_cases h2 : i < 26
    · rw [if_pos (by omega), decide_eq_true (show i < 64 by omega), Bool.true_and]
    · rw [if_neg (by omega)]
      have e1 : (2 ^ 7 * b + a).testBit i = false := Nat.testBit_lt_two_pow (Nat.lt_of_lt_of_le hx (by have : 2 ^ 10 ≤ 2 ^ i := Nat.pow_le_pow_right (by omega) (by omega); omega))
      have e2 : c.testBit (i - 10) = false := Nat.testBit_lt_two_pow (Nat.lt_of_lt_of_le hc (by have : 2 ^ 16 ≤ 2 ^ (i - 10) := Nat.pow_le_pow_right (by omega) (by omega); omega))
      rw [e1, e2, Bool.and_false]

/-- May a head be? -/
def MayP (a b c : Int) : Prop := 1 ≤ a ∧ a ≤ 64 ∧ 0 ≤ b ∧ b ≤ 3 ∧ 0 ≤ c ∧ c ≤ 65535
theorem may_yes {a b c : Int} (h : MayP a b c) : head_may.f a b c = some true := by
  unfold MayP at h
  unfold head_may.f
  rw [if_pos (by omega), if_pos (by omega), if_pos (by omega), if_pos (by omega), if_pos (by omega), decide_eq_true (by omega)]
theorem may_no {a b c : Int} (h : ¬ MayP a b c) : head_may.f a b c = some false := by
  unfold MayP at h
  unfold head_may.f
  (repeat' split) <;> first | rfl | (rw [decide_eq_false (by omega)])
theorem Pack_yes (a b c : Int) (h : MayP a b c) : head_Pack.f a b c = some (a + 128 * b + 1024 * c, 0) := by
  unfold head_Pack.f
  rw [may_yes h, Option.bind_some, if_pos rfl]
  unfold MayP at h
  obtain ⟨x, rfl⟩ : ∃ x : Nat, a = x := ⟨a.toNat, by omega⟩
  obtain ⟨y, rfl⟩ : ∃ y : Nat, b = y := ⟨b.toNat, by omega⟩
  obtain ⟨z, rfl⟩ : ∃ z : Nat, c = z := ⟨c.toNat, by omega⟩
  rw [u64_of_nat x (by omega), u64_of_nat y (by omega), u64_of_nat z (by omega), show (7 : Int) = ((7 : Nat) : Int) from rfl, show (3 : Int) = ((3 : Nat) : Int) from rfl, show (10 : Int) = ((10 : Nat) : Int) from rfl, show (16 : Int) = ((16 : Nat) : Int) from rfl,
    With_nat _ _ _ _ (by omega) (by omega) (by omega), Option.bind_some, With_nat _ _ _ _ (withN_lt _ _ _ _ (by omega)) (by omega) (by omega), Option.bind_some, word_nat x y z (by omega) (by omega) (by omega)]
  congr 2
  unfold wrap64
  omega
theorem Pack_no (a b c : Int) (h : ¬ MayP a b c) : head_Pack.f a b c = some (0, 1) := by
  unfold head_Pack.f
  rw [may_no h, Option.bind_some, if_neg (by decide)]
theorem pure (a b c x y z : Int) : gantlinelaw3_HeadApart.f a b c x y z = some true := by
  unfold gantlinelaw3_HeadApart.f gantlinelaw3_awake.f
  rw [Option.bind_some, if_pos rfl]
  by_cases h : MayP a b c
  · rw [Pack_yes _ _ _ h, Option.bind_some]
    by_cases g : MayP x y z
    · rw [Pack_yes _ _ _ g, Option.bind_some]
      dsimp only
      rw [if_pos rfl, if_pos rfl]
      have e : (a + 128 * b + 1024 * c == x + 128 * y + 1024 * z) = (a == x && (b == y && c == z)) := by
        unfold MayP at h g
        rw [Bool.eq_iff_iff]
        simp only [beq_iff_eq, Bool.and_eq_true]
        omega
      rw [e, beq_self_eq_true, if_pos rfl, decide_eq_true (by unfold MayP at h; omega)]
    · rw [Pack_no _ _ _ g, Option.bind_some]
      dsimp only
      rw [if_pos rfl, if_neg (by decide)]
  · rw [Pack_no _ _ _ h, Option.bind_some]
    by_cases g : MayP x y z
    · rw [Pack_yes _ _ _ g, Option.bind_some]; rfl
    · rw [Pack_no _ _ _ g, Option.bind_some]; rfl
theorem walk (a b c x y z : Int) (w : World) : Calls Try.prog 7 #[.agg #[.int .i64 a, .int .i64 b, .int .i64 c], .agg #[.int .i64 x, .int .i64 y, .int .i64 z]] w fun e w' => e = .returned (.bool true) ∧ Below w.heap.size w w' :=
  gantlinelaw3_HeadApart.calls _ _ _ _ _ _ true w (pure a b c x y z)
end Go.Proofs.Ytjmmdpfmnnemoaa.PHeadApart
