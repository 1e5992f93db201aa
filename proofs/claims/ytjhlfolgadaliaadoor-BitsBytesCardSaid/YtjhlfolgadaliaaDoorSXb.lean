/- Functions of whole numbers, run with numbers that are not known. -/
import Derived.Test.YtjhlfolgadaliaaDoorSXa
import Derived.Laws.BitsLemmas
import Derived.KernelRfl
namespace Go.Proofs.YtjhlfolgadaliaaDoor.AI
open Go Go.RowKit 
set_option linter.unusedVariables false
set_option linter.unusedSimpArgs false
def zs0 : List Int := [0, 1, 56, 2, 57, 49, 28, 3, 61, 58, 42, 50, 38, 29, 17, 4, 62, 47, 59, 36, 45, 43, 51, 22, 53, 39, 33, 30, 24, 18, 12, 5, 63, 55, 48, 27, 60, 41, 37, 16, 46, 35, 44, 21, 52, 32, 23, 11, 54, 26, 40, 15, 34, 20, 31, 10, 25, 14, 19, 9, 13, 8, 7, 6]
def tabs : Tabs := [(0, .u8, zs0)]
/-- A law's own code, where the table is laid. -/
abbrev L (P : Program) (F : FuncId → List Value → Option Value) (fn : Func) (ar : List Value) : Option Value := runV P (glT tabs) (regF P (glT tabs)) (withA P (glT tabs) 60 (Nat.beq 11) F) 60 fn ar (hT tabs)
theorem add3 (a b c : Int) : W (W (a + b) + c) = W (a + W (b + c)) := by
  apply W_of
  have h1 := W_mod (a + b)
  have h2 := W_mod (b + c)
  omega
theorem mul3 (a b c : Int) : W (W (a * b) * c) = W (a * W (b * c)) := by
  apply W_of
  rw [mul_mod' (W_mod (a * b)), mul_mod'' (W_mod (b * c)), Int.mul_assoc]
theorem dist (a b c : Int) : W (a * W (b + c)) = W (W (a * b) + W (a * c)) := by
  apply W_of
  rw [mul_mod'' (W_mod (b + c)), Int.mul_add]
  have h1 := W_mod (a * b)
  have h2 := W_mod (a * c)
  omega
theorem back (a b : Int) : W (W (a - b) + b) = W a := by
  apply W_of
  have h1 := W_mod (a - b)
  omega
theorem quot (a b : Int) (h : W b ≠ 0) : W (W (qM a b * b) + rM a b) = W a := by
  unfold qM rM
  rw [if_neg h, if_neg h, ← W_W a]
  conv => rhs; rw [← Int.tdiv_mul_add_tmod (W a) (W b)]
  rw [W_W]
  apply W_of
  have h1 := W_mod (W (Int.tdiv (W a) (W b)) * b)
  have h2 : (W (Int.tdiv (W a) (W b)) * b) % 9223372036854775808 = (Int.tdiv (W a) (W b) * W b) % 9223372036854775808 := by
    rw [mul_mod' (W_mod _), mul_mod'' (W_mod b)]
  omega
theorem bne_self {α : Type} [BEq α] [LawfulBEq α] (x : α) : (x != x) = false := by simp
set_option maxRecDepth 100000 in
theorem t6 (a b c : Int) : L Tryd.prog F2 Tryd.f6 [.int .i64 a, .int .i64 b, .int .i64 c] = some (.bool true) := by
  have h : L Tryd.prog F2 Tryd.f6 [.int .i64 a, .int .i64 b, .int .i64 c] = (bif W (W (a + b) + c) != W (a + W (b + c)) then some (Value.bool Bool.false) else bif W (W (a * b) * c) != W (a * W (b * c)) then some (Value.bool Bool.false) else bif W (a * W (b + c)) != W (W (a * b) + W (a * c)) then some (Value.bool Bool.false) else bif W (W (a - b) + b) != W a then some (Value.bool Bool.false) else bif W (a * b) != W (b * a) then some (Value.bool Bool.false) else bif okM b then bif okM b then bif W b != 0 then bif W (W (qM a b * b) + rM a b) == W a then some (Value.bool Bool.true) else some (Value.bool Bool.false) else some (Value.bool Bool.false) else bif W b != 0 then some (Value.bool Bool.false) else some (Value.bool Bool.false) else bif okM b then bif W b != 0 then some (Value.bool Bool.false) else some (Value.bool Bool.false) else bif W b != 0 then some (Value.bool Bool.false) else some (Value.bool Bool.true)) := by kernel_rfl
  rw [h, add3, bne_self, mul3, bne_self, dist, bne_self, back, bne_self, Int.mul_comm b a, bne_self]
  simp only [cond_false]
  unfold okM
  by_cases hb : W b = 0
  · rw [hb]; rfl
  · rw [bne_iff_ne.2 hb, quot a b hb, beq_self_eq_true]; rfl
theorem ring_walk (a b c : Int) (w : World) (hw : ∀ x ∈ tabs, Holds w x) : Calls Tryd.prog 6 #[.int .i64 a, .int .i64 b, .int .i64 c] w fun e w' => e = .returned (.bool true) ∧ Below w.heap.size w w' :=
  tabs_callsV (regF_ok (by kernel_rfl)) (withA_ok (by kernel_rfl) 60 _ F2_ok) Tryd.func6 rfl (by kernel_rfl) (t6 a b c) rfl rfl w hw

theorem up_down (a : Int) (n : Nat) (h : n ≤ 62) (h1 : -2 ^ (62 - n) ≤ W a) (h2 : W a < 2 ^ (62 - n)) : W (W (a * 2 ^ n)) / 2 ^ n = W a := by
  have hp : (2 : Int) ^ (62 - n) * 2 ^ n = 4611686018427387904 := by rw [← Int.pow_add, show 62 - n + n = 62 by omega]; rfl
  have hq : (0 : Int) < 2 ^ n := Int.pow_pos (by decide)
  have e : W (a * 2 ^ n) = W a * 2 ^ n := by
    rw [W_of (a * 2 ^ n) (W a * 2 ^ n) (mul_mod' (W_mod a).symm)]
    have b1 : -2 ^ (62 - n) * 2 ^ n ≤ W a * 2 ^ n := Int.mul_le_mul_of_nonneg_right h1 (Int.le_of_lt hq)
    have b2 : W a * 2 ^ n < 2 ^ (62 - n) * 2 ^ n := Int.mul_lt_mul_of_pos_right h2 hq
    rw [Int.neg_mul] at b1
    exact W_small _ (by omega) (by omega)
  rw [W_W, e, Int.mul_ediv_cancel _ (Int.ne_of_gt hq)]
theorem shlM_in (a : Int) (n : Nat) (h : n ≤ 62) : shlM a n = W (a * 2 ^ n) := by unfold shlM; rw [if_neg (by omega), Int.toNat_natCast]
theorem shrM_in (a : Int) (n : Nat) (h : n ≤ 62) : shrM a n = W a / 2 ^ n := by unfold shrM; rw [if_neg (by omega), Int.toNat_natCast]
theorem shl_up_down (a : Int) (n : Nat) (h : n ≤ 62) (h1 : -2 ^ (62 - n) ≤ W a) (h2 : W a < 2 ^ (62 - n)) : shrM (shlM a n) n = W a := by
  rw [shlM_in a n h, shrM_in _ n h]; exact up_down a n h h1 h2
theorem double (a : Int) (m : Nat) (h : m + 1 ≤ 62) : shlM a ((m + 1 : Nat) : Int) = W (shlM a m + shlM a m) := by
  rw [shlM_in a (m + 1) h, shlM_in a m (by omega)]
  apply W_of
  have h1 := W_mod (a * 2 ^ m)
  rw [Int.pow_succ, ← Int.mul_assoc]
  omega
/-- The last part of the law of shifts. -/
def tailT (a b : Int) : Option Value := bif decide (b > 0) then some (Value.bool Bool.true) else bif shrM a b == W a then some (Value.bool Bool.true) else some (Value.bool Bool.false)
theorem tail_ok (a : Int) (n : Nat) : tailT a n = some (.bool true) := by
  unfold tailT
  by_cases h : (n : Int) > 0
  · rw [decide_eq_true h]; rfl
  · have : n = 0 := by omega
    subst this
    rw [decide_eq_false h, shrM_in a 0 (by omega), Int.pow_zero, Int.ediv_one, beq_self_eq_true]; rfl
/-- What comes behind the doubling. -/
def midT (a b : Int) : Option Value := bif decide (IntKind.wrap IntKind.u64 (IntKind.wrap IntKind.i64 (62 - b)) < 0) then none else bif decide (W a ≥ IntKind.wrap IntKind.i64 (-1 * 2 ^ Min.min (Int.toNat (IntKind.wrap IntKind.u64 (IntKind.wrap IntKind.i64 (62 - b)))) 64)) then bif decide (IntKind.wrap IntKind.u64 (IntKind.wrap IntKind.i64 (62 - b)) < 0) then none else bif decide (W a < IntKind.wrap IntKind.i64 (1 * 2 ^ Min.min (Int.toNat (IntKind.wrap IntKind.u64 (IntKind.wrap IntKind.i64 (62 - b)))) 64)) then bif shrM (shlM a b) b != W a then some (Value.bool Bool.false) else tailT a b else tailT a b else tailT a b
theorem mid_ok (a : Int) (n : Nat) (h : n ≤ 62) : midT a n = some (.bool true) := by
  unfold midT
  have e0 : IntKind.wrap IntKind.u64 (IntKind.wrap IntKind.i64 (62 - (n : Int))) = ((62 - n : Nat) : Int) := by rw [i64w, u64w]; omega
  have e1 : Min.min (62 - n) 64 = 62 - n := by omega
  have hle : (2 : Int) ^ (62 - n) ≤ 4611686018427387904 := by
    have : (2 : Nat) ^ (62 - n) ≤ 2 ^ 62 := Nat.pow_le_pow_right (by omega) (by omega)
    have hc : ((2 ^ (62 - n) : Nat) : Int) = (2 : Int) ^ (62 - n) := by rw [Int.natCast_pow]; rfl
    rw [← hc]; omega
  have hpos : (0 : Int) < 2 ^ (62 - n) := Int.pow_pos (by decide)
  have e2 : IntKind.i64.wrap (-1 * 2 ^ (62 - n)) = -2 ^ (62 - n) := by rw [Int.neg_mul, Int.one_mul, i64w]; omega
  have e3 : IntKind.i64.wrap (1 * 2 ^ (62 - n)) = 2 ^ (62 - n) := by rw [Int.one_mul, i64w]; omega
  rw [e0, decide_eq_false (by omega), Int.toNat_natCast, e1, e2, e3]
  simp only [cond_false]
  by_cases h1 : W a ≥ -2 ^ (62 - n)
  · rw [decide_eq_true h1]
    by_cases h2 : W a < 2 ^ (62 - n)
    · rw [decide_eq_true h2, shl_up_down a n h h1 h2, bne_self]
      exact tail_ok a n
    · rw [decide_eq_false h2]; exact tail_ok a n
  · rw [decide_eq_false h1]; exact tail_ok a n
set_option maxRecDepth 100000 in
theorem t7 (a b : Int) : L Tryd.prog F2 Tryd.f7 [.int .i64 a, .int .i64 b] = some (.bool true) := by
  have h : L Tryd.prog F2 Tryd.f7 [.int .i64 a, .int .i64 b] = (bif decide (b < 0) then bif shlM a b == 0 then some (Value.bool Bool.true) else some (Value.bool Bool.false) else bif decide (b > 62) then bif shlM a b == 0 then some (Value.bool Bool.true) else some (Value.bool Bool.false) else bif decide (b > 0) then bif shlM a b != W (shlM a (IntKind.wrap IntKind.i64 (b - 1)) + shlM a (IntKind.wrap IntKind.i64 (b - 1))) then some (Value.bool Bool.false) else midT a b else midT a b) := by kernel_rfl
  rw [h]
  by_cases h1 : b < 0
  · have : shlM a b = 0 := by unfold shlM; rw [if_pos (.inl h1)]
    rw [decide_eq_true h1, this]; rfl
  by_cases h2 : b > 62
  · have : shlM a b = 0 := by unfold shlM; rw [if_pos (.inr h2)]
    rw [decide_eq_false h1, decide_eq_true h2, this]; rfl
  obtain ⟨n, rfl⟩ : ∃ x : Nat, b = x := ⟨b.toNat, by omega⟩
  rw [decide_eq_false h1, decide_eq_false h2]
  simp only [cond_false]
  by_cases h3 : (n : Int) > 0
  · obtain ⟨m, rfl⟩ : ∃ m, n = m + 1 := ⟨n - 1, by omega⟩
    have hw : IntKind.i64.wrap (((m + 1 : Nat) : Int) - 1) = (m : Int) := by rw [i64w]; omega
    rw [decide_eq_true h3, hw, double a m (by omega), bne_self]
    exact mid_ok a (m + 1) (by omega)
  · rw [decide_eq_false h3]
    exact mid_ok a n (by omega)
theorem shifts_walk (a b : Int) (w : World) (hw : ∀ x ∈ tabs, Holds w x) : Calls Tryd.prog 7 #[.int .i64 a, .int .i64 b] w fun e w' => e = .returned (.bool true) ∧ Below w.heap.size w w' :=
  tabs_callsV (regF_ok (by kernel_rfl)) (withA_ok (by kernel_rfl) 60 _ F2_ok) Tryd.func7 rfl (by kernel_rfl) (t7 a b) rfl rfl w hw
end Go.Proofs.YtjhlfolgadaliaaDoor.AI
