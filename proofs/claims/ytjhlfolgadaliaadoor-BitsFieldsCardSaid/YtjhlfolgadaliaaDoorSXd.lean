/- Functions of whole numbers, run with numbers that are not known. -/
import Derived.Test.YtjhlfolgadaliaaDoorSXc
import Derived.Laws.BitsLemmas
import Derived.KernelRfl
namespace Go.Proofs.YtjhlfolgadaliaaDoor.AI
open Go Go.RowKit
set_option linter.unusedVariables false
set_option linter.unusedSimpArgs false
theorem field_with (w a n v : Nat) (hw : w < 2 ^ 64) (h : a + n ≤ 64) : fieldN (withN w a n v) a n = fieldN v 0 n := by
  refine Nat.eq_of_testBit_eq fun i => ?_
  rw [fieldN_bit, fieldN_bit, withN_bit _ _ _ _ _ hw]
  by_cases hi : i < n
  · rw [if_pos (by omega), decide_eq_true (show a + i < 64 by omega), Bool.true_and, show a + i - a = i by omega, Nat.zero_add]
  · rw [decide_eq_false hi, Bool.and_false, Bool.and_false]
theorem bit_with (w a n v p : Nat) (hw : w < 2 ^ 64) (hp : p < 64) (h : ¬ (a ≤ p ∧ p < a + n)) : fieldN (withN w a n v) p 1 = fieldN w p 1 := by
  refine Nat.eq_of_testBit_eq fun i => ?_
  rw [fieldN_bit, fieldN_bit, withN_bit _ _ _ _ _ hw]
  by_cases hi : i < 1
  · rw [if_neg (by omega), decide_eq_true (show p + i < 64 by omega), Bool.true_and]
  · rw [decide_eq_false hi, Bool.and_false, Bool.and_false]
set_option maxRecDepth 100000 in
theorem t8 (w a b v p : Int) (h0 : (Lit.int .u64 w).wf = true) (h3 : (Lit.int .u64 v).wf = true) : L Tryd.prog F4 Tryd.f8 [.int .u64 w, .int .i64 a, .int .i64 b, .int .u64 v, .int .i64 p] = some (.bool true) := by
  have h : L Tryd.prog F4 Tryd.f8 [.int .u64 w, .int .i64 a, .int .i64 b, .int .u64 v, .int .i64 p] = (bif decide (a < 0) then some (Value.bool Bool.true) else bif decide (a > 63) then some (Value.bool Bool.true) else bif decide (b < 1) then some (Value.bool Bool.true) else bif decide (b > IntKind.wrap IntKind.i64 (64 - a)) then some (Value.bool Bool.true) else bif decide (p < 0) then some (Value.bool Bool.true) else bif decide (p > 63) then some (Value.bool Bool.true) else bif FieldM (WithM w a b v) a b != FieldM v 0 b then some (Value.bool Bool.false) else bif decide (p ≥ a) then bif decide (p < IntKind.wrap IntKind.i64 (a + b)) then some (Value.bool Bool.true) else bif FieldM (WithM w a b v) p 1 == FieldM w p 1 then some (Value.bool Bool.true) else some (Value.bool Bool.false) else bif FieldM (WithM w a b v) p 1 == FieldM w p 1 then some (Value.bool Bool.true) else some (Value.bool Bool.false)) := by kernel_rfl
  rw [h]
  clear h
  obtain ⟨w, rfl, hw⟩ := nat_of_wf h0
  obtain ⟨v, rfl, hv⟩ := nat_of_wf h3
  by_cases h1 : a < 0
  · rw [decide_eq_true h1]; rfl
  by_cases h2 : a > 63
  · rw [decide_eq_false h1, decide_eq_true h2]; rfl
  by_cases h3 : b < 1
  · rw [decide_eq_false h1, decide_eq_false h2, decide_eq_true h3]; rfl
  have hs : IntKind.i64.wrap (64 - a) = 64 - a := by rw [i64w]; omega
  rw [hs, decide_eq_false h1, decide_eq_false h2, decide_eq_false h3]
  by_cases h4 : b > 64 - a
  · rw [decide_eq_true h4]; rfl
  by_cases h5 : p < 0
  · rw [decide_eq_false h4, decide_eq_true h5]; rfl
  by_cases h6 : p > 63
  · rw [decide_eq_false h4, decide_eq_false h5, decide_eq_true h6]; rfl
  rw [decide_eq_false h4, decide_eq_false h5, decide_eq_false h6]
  obtain ⟨a, rfl⟩ : ∃ x : Nat, a = x := ⟨a.toNat, by omega⟩
  obtain ⟨n, rfl⟩ : ∃ x : Nat, b = x := ⟨b.toNat, by omega⟩
  obtain ⟨p, rfl⟩ : ∃ x : Nat, p = x := ⟨p.toNat, by omega⟩
  have hx := withN_lt w a n v hw
  have hadd : IntKind.i64.wrap ((a : Int) + n) = a + n := by rw [i64w]; omega
  simp only [cond_false]
  rw [With_nat w a n v hw hv (by omega), Field_nat _ a n hx (by omega), show (0 : Int) = ((0 : Nat) : Int) from rfl, Field_nat v 0 n hv (by omega), field_with w a n v hw (by omega), bne_self, show (1 : Int) = ((1 : Nat) : Int) from rfl,
    Field_nat _ p 1 hx (by omega), Field_nat w p 1 hw (by omega), hadd]
  simp only [cond_false]
  by_cases h7 : (p : Int) ≥ a
  · rw [decide_eq_true h7]
    by_cases h8 : (p : Int) < a + n
    · rw [decide_eq_true h8]; rfl
    · rw [decide_eq_false h8, bit_with w a n v p hw (by omega) (by omega), beq_self_eq_true]; rfl
  · rw [decide_eq_false h7, bit_with w a n v p hw (by omega) (by omega), beq_self_eq_true]; rfl
theorem fields_walk (a b c d e : Int) (w : World) (h0 : (Lit.int .u64 a).wf = true) (_ : (Lit.int .i64 b).wf = true) (_ : (Lit.int .i64 c).wf = true) (h3 : (Lit.int .u64 d).wf = true) (_ : (Lit.int .i64 e).wf = true) (hw : ∀ x ∈ tabs, Holds w x) :
    Calls Tryd.prog 8 #[.int .u64 a, .int .i64 b, .int .i64 c, .int .u64 d, .int .i64 e] w fun e w' => e = .returned (.bool true) ∧ Below w.heap.size w w' :=
  tabs_callsV (regF_ok (by kernel_rfl)) (withA_ok (by kernel_rfl) 60 _ F4_ok) Tryd.func8 rfl (by kernel_rfl) (t8 a b c d e h0 h3) rfl rfl w hw
end Go.Proofs.YtjhlfolgadaliaaDoor.AI
