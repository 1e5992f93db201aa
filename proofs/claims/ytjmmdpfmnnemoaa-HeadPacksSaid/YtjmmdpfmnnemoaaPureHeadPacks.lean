/- What HeadPacks comes to, in numbers alone. -/
import Derived.Test.YtjmmdpfmnnemoaaPHeadPacksx4
import Derived.Test.YtjmmdpfmnnemoaaBits
namespace Go.Proofs.Ytjmmdpfmnnemoaa.PHeadPacks
open Go Go.RowKit Go.Proofs.YtjmmdpfmnnemoaaW.PrintWords Go.Proofs.Ytjmmdpfmnnemoaa.Bits
set_option linter.unusedVariables false
set_option linter.unusedSimpArgs false
theorem u64_of_nat (n : Nat) (h : n < 2 ^ 64) : IntKind.u64.wrap (n : Int) = n := by rw [u64_wrap]; omega
theorem within_nat (a n : Nat) (h : a + n ≤ 64) : bits_within.f a n = some true := by
  unfold bits_within.f
  have hw : wrap64 (64 - (n : Int)) = 64 - n := by unfold wrap64; omega
  rw [if_pos (by omega), if_pos (by omega), if_pos (by omega), hw, decide_eq_true (by omega)]
theorem mask_nat' (n : Nat) (h : n ≤ 64) : bits_mask.f n = some ((2 ^ n - 1 : Nat) : Int) := by
  unfold bits_mask.f
  rw [u64_of_nat n (by omega), if_pos (by omega), mask_nat n h]
theorem With_nat (w a n v : Nat) (hw : w < 2 ^ 64) (hv : v < 2 ^ 64) (h : a + n ≤ 64) : bits_With.f w a n v = some ((withN w a n v : Nat) : Int) := by
  unfold bits_With.f
  have hm := mask_lt n (by omega)
  rw [within_nat a n h, Option.bind_some, if_pos rfl, mask_nat' n (by omega), Option.bind_some, u64_of_nat a (by omega), if_pos (by omega), Option.bind_some, shl_nat,
    andNot_nat _ _ hw (Nat.mod_lt _ (Nat.two_pow_pos 64)), and_nat _ _ hv hm, shl_nat, or_nat _ _ (Nat.lt_of_le_of_lt Nat.and_le_left hw) (Nat.mod_lt _ (Nat.two_pow_pos 64))]
  rfl
theorem Field_nat (w a n : Nat) (hw : w < 2 ^ 64) (h : a + n ≤ 64) : bits_Field.f w a n = some ((fieldN w a n : Nat) : Int) := by
  unfold bits_Field.f
  have hm := mask_lt n (by omega)
  rw [within_nat a n h, Option.bind_some, if_pos rfl, u64_of_nat a (by omega), if_pos (by omega), mask_nat' n (by omega), Option.bind_some, shr_nat _ _ hw,
    and_nat _ _ (Nat.lt_of_le_of_lt (Nat.div_le_self _ _) hw) hm]
  rfl
/-- A head's word. -/
theorem word_nat (a b c : Nat) (ha : a < 128) (hb : b < 8) (hc : c < 65536) : withN (withN a 7 3 b) 10 16 c = a + 128 * b + 1024 * c := by
  have h1 : withN a 7 3 b = 2 ^ 7 * b + a := by
    refine Nat.eq_of_testBit_eq fun i => ?_
    rw [withN_bit _ _ _ _ _ (by omega), Nat.testBit_two_pow_mul_add _ (by omega)]
    by_cases h : i < 7
    · rw [if_neg (by omega), if_pos h, decide_eq_true (show i < 64 by omega), Bool.true_and]
    · rw [if_neg h]
      by_cases h2 : i < 10
      · rw [if_pos (by omega), decide_eq_true (show i < 64 by omega), Bool.true_and]
      · rw [if_neg (by omega)]
        have e1 : a.testBit i = false := Nat.testBit_lt_two_pow (Nat.lt_of_lt_of_le ha (by have : 2 ^ 7 ≤ 2 ^ i := Nat.pow_le_pow_right (by omega) (by omega); omega))
        have e2 : b.testBit (i - 7) = false := Nat.testBit_lt_two_pow (Nat.lt_of_lt_of_le hb (by have : 2 ^ 3 ≤ 2 ^ (i - 7) := Nat.pow_le_pow_right (by omega) (by omega); omega))
        rw [e1, e2, Bool.and_false]
  rw [h1]
  refine Nat.eq_of_testBit_eq fun i => ?_
  have hx : 2 ^ 7 * b + a < 2 ^ 10 := by omega
  rw [show a + 128 * b + 1024 * c = 2 ^ 10 * c + (2 ^ 7 * b + a) by omega, withN_bit _ _ _ _ _ (by omega), Nat.testBit_two_pow_mul_add _ hx]
  by_cases h : i < 10
  · rw [if_neg (by omega), if_pos h, decide_eq_true (show i < 64 by omega), Bool.true_and]
  · rw [if_neg h]
    by_cases h2 : i < 26
    · rw [if_pos (by omega), decide_eq_true (show i < 64 by omega), Bool.true_and]
    · rw [if_neg (by omega)]
      have e1 : (2 ^ 7 * b + a).testBit i = false := Nat.testBit_lt_two_pow (Nat.lt_of_lt_of_le hx (by have : 2 ^ 10 ≤ 2 ^ i := Nat.pow_le_pow_right (by omega) (by omega); omega))
      have e2 : c.testBit (i - 10) = false := Nat.testBit_lt_two_pow (Nat.lt_of_lt_of_le hc (by have : 2 ^ 16 ≤ 2 ^ (i - 10) := Nat.pow_le_pow_right (by omega) (by omega); omega))
      rw [e1, e2, Bool.and_false]

/-- May a head be? -/
def MayP (a b c : Int) : Prop := 1 ≤ a ∧ a ≤ 64 ∧ 0 ≤ b ∧ b ≤ 3 ∧ 0 ≤ c ∧ c ≤ 65535
theorem may_yes {a b c : Int} (h : MayP a b c) : head_may.f a b c = some true := by
  unfold MayP at h
  unfold head_may.f
  rw [if_pos (by omega), if_pos (by omega), if_pos (by omega), if_pos (by omega), if_pos (by omega), decide_eq_true (by omega)]
theorem may_no {a b c : Int} (h : ¬ MayP a b c) : head_may.f a b c = some false := by
  unfold MayP at h
  unfold head_may.f
  (repeat' split) <;> first | rfl | (rw [decide_eq_false (by omega)])
theorem Pack_yes (a b c : Int) (h : MayP a b c) : head_Pack.f a b c = some (a + 128 * b + 1024 * c, 0) := by
  unfold head_Pack.f
  rw [may_yes h, Option.bind_some, if_pos rfl]
  unfold MayP at h
  obtain ⟨x, rfl⟩ : ∃ x : Nat, a = x := ⟨a.toNat, by omega⟩
  obtain ⟨y, rfl⟩ : ∃ y : Nat, b = y := ⟨b.toNat, by omega⟩
  obtain ⟨z, rfl⟩ : ∃ z : Nat, c = z := ⟨c.toNat, by omega⟩
  rw [u64_of_nat x (by omega), u64_of_nat y (by omega), u64_of_nat z (by omega), show (7 : Int) = ((7 : Nat) : Int) from rfl, show (3 : Int) = ((3 : Nat) : Int) from rfl, show (10 : Int) = ((10 : Nat) : Int) from rfl, show (16 : Int) = ((16 : Nat) : Int) from rfl,
    With_nat _ _ _ _ (by omega) (by omega) (by omega), Option.bind_some, With_nat _ _ _ _ (withN_lt _ _ _ _ (by omega)) (by omega) (by omega), Option.bind_some, word_nat x y z (by omega) (by omega) (by omega)]
  congr 2
  unfold wrap64
  omega
theorem Pack_no (a b c : Int) (h : ¬ MayP a b c) : head_Pack.f a b c = some (0, 1) := by
  unfold head_Pack.f
  rw [may_no h, Option.bind_some, if_neg (by decide)]
theorem rPack_yes (a b c : Int) (h : MayP a b c) : gantlineref1_Pack.f a b c = some (a + 128 * b + 1024 * c, true) := by
  unfold MayP at h
  unfold gantlineref1_Pack.f
  rw [if_neg (by omega), if_neg (by omega), if_neg (by omega), if_neg (by omega), if_neg (by omega), if_neg (by omega)]
  have : wrap64 (wrap64 (a + wrap64 (128 * b)) + wrap64 (1024 * c)) = a + 128 * b + 1024 * c := by unfold wrap64; omega
  rw [this]
theorem rPack_no (a b c : Int) (h : ¬ MayP a b c) : gantlineref1_Pack.f a b c = some (0, false) := by
  unfold MayP at h
  unfold gantlineref1_Pack.f
  (repeat' split) <;> first | rfl | (exfalso; omega)
theorem tmod_pos (x k : Int) (h : 0 ≤ x) (hk : 0 < k) : Int.tmod x k = x % k := Int.tmod_eq_emod_of_nonneg h
theorem tdiv_pos (x k : Int) (h : 0 ≤ x) : Int.tdiv x k = x / k := Int.tdiv_eq_ediv_of_nonneg h
/-- Is a word a head's? -/
def IsP (x : Int) : Prop := 0 ≤ x ∧ x < 67108864 ∧ MayP (x % 128) (x / 128 % 8) (x / 1024)
theorem rUnpack_yes (x : Int) (h : IsP x) : gantlineref1_Unpack.f x = some (x % 128, x / 128 % 8, x / 1024, true) := by
  obtain ⟨h0, h1, h2⟩ := h
  unfold gantlineref1_Unpack.f
  have e1 : wrap64 (x / 128) = x / 128 := by unfold wrap64; omega
  have e2 : wrap64 (x / 1024) = x / 1024 := by unfold wrap64; omega
  rw [if_neg (by omega), if_neg (by omega), tmod_pos x 128 h0 (by decide), tdiv_pos x 128 h0, tdiv_pos x 1024 h0, e1, e2, tmod_pos (x / 128) 8 (by omega) (by decide), rPack_yes _ _ _ h2]
  rfl
theorem rUnpack_no (x : Int) (h : ¬ IsP x) : gantlineref1_Unpack.f x = some (0, 0, 0, false) := by
  unfold gantlineref1_Unpack.f
  by_cases h0 : x < 0
  · rw [if_pos h0]
  by_cases h1 : x ≥ 67108864
  · rw [if_neg h0, if_pos h1]
  have h0' : 0 ≤ x := by omega
  have e1 : wrap64 (x / 128) = x / 128 := by unfold wrap64; omega
  have e2 : wrap64 (x / 1024) = x / 1024 := by unfold wrap64; omega
  have h2 : ¬ MayP (x % 128) (x / 128 % 8) (x / 1024) := fun hm => h ⟨h0', by omega, hm⟩
  rw [if_neg h0, if_neg h1, tmod_pos x 128 h0' (by decide), tdiv_pos x 128 h0', tdiv_pos x 1024 h0', e1, e2, tmod_pos (x / 128) 8 (by omega) (by decide), rPack_no _ _ _ h2]
  rfl
theorem Unpack_all (x : Int) (hl : -9223372036854775808 ≤ x) (hh : x ≤ 9223372036854775807) : (IsP x → head_Unpack.f x = some (x % 128, x / 128 % 8, x / 1024, 0)) ∧ (¬ IsP x → head_Unpack.f x = some (0, 0, 0, 3)) := by
  obtain ⟨u, hu⟩ : ∃ u : Nat, IntKind.u64.wrap x = u := ⟨(IntKind.u64.wrap x).toNat, by rw [u64_wrap]; omega⟩
  have hu' : x % 18446744073709551616 = u := by rw [← u64_wrap]; exact hu
  have hlt : u < 2 ^ 64 := by omega
  unfold head_Unpack.f
  rw [hu, show (0 : Int) = ((0 : Nat) : Int) from rfl, show (7 : Int) = ((7 : Nat) : Int) from rfl, show (3 : Int) = ((3 : Nat) : Int) from rfl, show (10 : Int) = ((10 : Nat) : Int) from rfl, show (16 : Int) = ((16 : Nat) : Int) from rfl,
    Field_nat u 0 7 hlt (by omega), Field_nat u 7 3 hlt (by omega), Field_nat u 10 16 hlt (by omega)]
  simp only [Option.bind_some, fieldN_eq]
  by_cases h26 : u < 67108864
  · have hx : x = u := by omega
    have e0 : ((u : Int) / 67108864 = ((0 : Nat) : Int)) := by omega
    have f1 : wrap64 ((u / 2 ^ 0 % 2 ^ 7 : Nat) : Int) = x % 128 := by unfold wrap64; omega
    have f2 : wrap64 ((u / 2 ^ 7 % 2 ^ 3 : Nat) : Int) = x / 128 % 8 := by unfold wrap64; omega
    have f3 : wrap64 ((u / 2 ^ 10 % 2 ^ 16 : Nat) : Int) = x / 1024 := by unfold wrap64; omega
    rw [if_pos e0, f1, f2, f3]
    refine ⟨fun h => ?_, fun h => ?_⟩
    · rw [may_yes h.2.2]; rfl
    · rw [may_no (fun hm => h ⟨by omega, by omega, hm⟩)]; rfl
  · have e0 : ¬ ((u : Int) / 67108864 = ((0 : Nat) : Int)) := by omega
    rw [if_neg e0]
    exact ⟨fun h => by have := h.1; have := h.2.1; omega, fun _ => rfl⟩
theorem word_is (a b c : Int) (h : MayP a b c) : IsP (a + 128 * b + 1024 * c) ∧ (a + 128 * b + 1024 * c) % 128 = a ∧ (a + 128 * b + 1024 * c) / 128 % 8 = b ∧ (a + 128 * b + 1024 * c) / 1024 = c := by
  have h' := h
  unfold MayP at h'
  have e1 : (a + 128 * b + 1024 * c) % 128 = a := by omega
  have e2 : (a + 128 * b + 1024 * c) / 128 % 8 = b := by omega
  have e3 : (a + 128 * b + 1024 * c) / 1024 = c := by omega
  exact ⟨⟨by omega, by omega, by rw [e1, e2, e3]; exact h⟩, e1, e2, e3⟩
theorem last (k : Nat) (w : Int) (hl : -9223372036854775808 ≤ w) (hh : w ≤ 9223372036854775807) : gantlinelaw3_HeadPacks.j1 (k + 1) w false = some true := by
  rw [gantlinelaw3_HeadPacks.j1]
  rw [if_neg (by decide)]
  by_cases h : IsP w
  · rw [(Unpack_all w hl hh).1 h, rUnpack_yes w h]; simp
  · rw [(Unpack_all w hl hh).2 h, rUnpack_no w h]; simp
theorem pure (a b c w : Int) (hl : -9223372036854775808 ≤ w) (hh : w ≤ 9223372036854775807) : gantlinelaw3_HeadPacks.f (1 + 1) a b c w = some true := by
  unfold gantlinelaw3_HeadPacks.f gantlinelaw3_awake.f
  rw [Option.bind_some, if_pos rfl]
  by_cases h : MayP a b c
  · obtain ⟨hi, e1, e2, e3⟩ := word_is a b c h
    have hb := hi.2.1
    have hb0 := hi.1
    rw [Pack_yes _ _ _ h, rPack_yes _ _ _ h, Option.bind_some, Option.bind_some]
    dsimp only
    rw [if_pos rfl, if_neg (by decide), if_pos rfl]
    rw [gantlinelaw3_HeadPacks.j0]
    rw [if_neg (by decide), if_pos rfl, (Unpack_all _ (by omega) (by omega)).1 hi, Option.bind_some]
    dsimp only
    rw [if_pos rfl, e1, e2, e3]
    simp only [beq_self_eq_true, Bool.not_true, Bool.or_self]
    exact last 0 w hl hh
  · rw [Pack_no _ _ _ h, rPack_no _ _ _ h, Option.bind_some, Option.bind_some]
    dsimp only
    rw [if_pos rfl, if_neg (by decide), if_neg (by decide)]
    rw [gantlinelaw3_HeadPacks.j0]
    rw [if_neg (by decide), if_neg (by decide)]
    by_cases g : IsP w
    · rw [(Unpack_all w hl hh).1 g, rUnpack_yes w g]; simp
    · rw [(Unpack_all w hl hh).2 g, rUnpack_no w g]; simp
theorem walk (a b c x : Int) (w : World) (h0 : (Lit.int .i64 a).wf = true) (h1 : (Lit.int .i64 b).wf = true) (h2 : (Lit.int .i64 c).wf = true) (h3 : (Lit.int .i64 x).wf = true) : Calls Try.prog 4 #[.agg #[.int .i64 a, .int .i64 b, .int .i64 c], .int .i64 x] w fun e w' => e = .returned (.bool true) ∧ Below w.heap.size w w' :=
  gantlinelaw3_HeadPacks.calls (1 + 1) _ _ _ _ true w (pure a b c x (i64_of_wf h3).1 (i64_of_wf h3).2)
end Go.Proofs.Ytjmmdpfmnnemoaa.PHeadPacks
