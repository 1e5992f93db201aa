/- Functions of whole numbers, run with numbers that are not known. -/
import Derived.Test.YtjhlfolgadaliaaDoorProg
import Derived.Test.YtjhlfolgadaliaaDoorAIlh
import Derived.Laws.BitsLemmas
import Derived.KernelRfl
namespace Go.Proofs.YtjhlfolgadaliaaDoor.AI
open Go Go.RowKit 
set_option linter.unusedVariables false
set_option linter.unusedSimpArgs false
/-- A number of 63 bits. -/
def W (x : Int) : Int := (x + 4611686018427387904) % 9223372036854775808 - 4611686018427387904
def okM (b : Int) : Bool := W b != 0
def qM (a b : Int) : Int := if W b = 0 then 0 else W (Int.tdiv (W a) (W b))
def rM (a b : Int) : Int := if W b = 0 then 0 else Int.tmod (W a) (W b)
def shlM (a n : Int) : Int := if n < 0 ∨ n > 62 then 0 else W (a * 2 ^ n.toNat)
def shrM (a n : Int) : Int := if n < 0 ∨ n > 62 then W a / 2 ^ 63 else W a / 2 ^ n.toNat
def i1 (f : Int → Option Value) (ar : List Value) : Option Value := match ar with | [.int .i64 a] => f a | _ => none
def i2 (f : Int → Int → Option Value) (ar : List Value) : Option Value := match ar with | [.int .i64 a, .int .i64 b] => f a b | _ => none
def F1 : FuncId → List Value → Option Value := andF 36 (i1 fun a => some (.int .i64 (W a))) noF
def F2 : FuncId → List Value → Option Value := andF 33 (i2 fun a b => some (.int .i64 (W (a + b)))) <| andF 34 (i2 fun a b => some (.int .i64 (W (a * b)))) <| andF 35 (i2 fun a b => some (.int .i64 (W (a - b)))) <|
  andF 12 (i2 fun a b => some (.tuple ⟨[.int .i64 (qM a b), .bool (okM b)]⟩)) <| andF 13 (i2 fun a b => some (.tuple ⟨[.int .i64 (rM a b), .bool (okM b)]⟩)) <|
  andF 16 (i2 fun a n => some (.int .i64 (shlM a n))) <| andF 15 (i2 fun a n => some (.int .i64 (shrM a n))) F1
theorem W_mod (x : Int) : W x % 9223372036854775808 = x % 9223372036854775808 := by unfold W; omega
theorem W_of (x y : Int) (h : x % 9223372036854775808 = y % 9223372036854775808) : W x = W y := by unfold W; omega
theorem i64w (x : Int) : IntKind.i64.wrap x = (x + 9223372036854775808) % 18446744073709551616 - 9223372036854775808 := IntKind.wrap_i64 x
theorem u64w (x : Int) : IntKind.u64.wrap x = x % 18446744073709551616 := by simp [IntKind.wrap, IntKind.bits, IntKind.signed]
theorem W_wrap (x : Int) : W (IntKind.i64.wrap x) = W x := W_of _ _ (by rw [i64w]; omega)
theorem W_W (x : Int) : W (W x) = W x := W_of _ _ (W_mod x)
theorem W_range (x : Int) : -4611686018427387904 ≤ W x ∧ W x < 4611686018427387904 := by unfold W; omega
theorem W_small (x : Int) (h0 : -4611686018427387904 ≤ x) (h1 : x < 4611686018427387904) : W x = x := by unfold W; omega
theorem mul_mod' {x y z : Int} (h : x % 9223372036854775808 = y % 9223372036854775808) : (x * z) % 9223372036854775808 = (y * z) % 9223372036854775808 := by
  rw [Int.mul_emod, h, ← Int.mul_emod]
theorem mul_mod'' {x y z : Int} (h : x % 9223372036854775808 = y % 9223372036854775808) : (z * x) % 9223372036854775808 = (z * y) % 9223372036854775808 := by
  rw [Int.mul_emod, h, ← Int.mul_emod]
theorem fdiv_pow (a : Int) (n : Nat) : Int.fdiv a (2 ^ n) = a / 2 ^ n := Int.fdiv_eq_ediv_of_nonneg a (Int.le_of_lt (Int.pow_pos (by decide)))

abbrev R (P : Program) (F : FuncId → List Value → Option Value) (fn : Func) (ar : List Value) : Option Value := runV P gl0 (regF P gl0) (sumA F) 20 fn ar h0
theorem regOK : RegOK Tryd.prog gl0 (regF Tryd.prog gl0) := regF_ok (by kernel_rfl)
theorem t36 (a : Int) : R Tryd.prog noF Tryd.f36 [.int .i64 a] = some (.int .i64 (W a)) := by
  have h : R Tryd.prog noF Tryd.f36 [.int .i64 a] = some (.int .i64 (Int.fdiv (IntKind.wrap IntKind.i64 (a * 2 ^ Min.min (Int.toNat 1) 64)) (2 ^ Min.min (Int.toNat 1) 64))) := by kernel_rfl
  rw [h, show Min.min (Int.toNat 1) 64 = 1 from rfl, fdiv_pow, i64w]
  congr 2
  unfold W
  omega
theorem i1_some {f : Int → Option Value} {ar : List Value} {v : Value} (h : i1 f ar = some v) : ∃ a, ar = [.int .i64 a] ∧ f a = some v := by
  unfold i1 at h
  split at h
  · exact ⟨_, rfl, h⟩
  · cases h
theorem i2_some {f : Int → Int → Option Value} {ar : List Value} {v : Value} (h : i2 f ar = some v) : ∃ a b, ar = [.int .i64 a, .int .i64 b] ∧ f a b = some v := by
  unfold i2 at h
  split at h
  · exact ⟨_, _, rfl, h⟩
  · cases h
/-- What a function of whole numbers owes to stand in a table. -/
theorem ent1 {k : FuncId} {fn : Func} {c : Code} {f : Int → Option Value} {F G : FuncId → List Value → Option Value} (hfn : Tryd.prog.funcs[k]? = some fn) (hb : fn.body = some c) (hname : (fn.name == "runtime.NumGoroutine") = false)
    (hG : TabOK Tryd.prog G) (hr : ∀ a v, f a = some v → R Tryd.prog G fn [.int .i64 a] = some v ∧ plainV v = true) (hF : TabOK Tryd.prog F) : TabOK Tryd.prog (andF k (i1 f) F) :=
  andF_ok hfn hb hname (fun ar v h => by
    obtain ⟨a, rfl, h1⟩ := i1_some h
    obtain ⟨h2, h3⟩ := hr a v h1
    exact ⟨rfl, h3, fun w => plain_callsV regOK (tab_ok hG) hfn hb hname h2 rfl h3 w⟩) hF
theorem ent2 {k : FuncId} {fn : Func} {c : Code} {f : Int → Int → Option Value} {F G : FuncId → List Value → Option Value} (hfn : Tryd.prog.funcs[k]? = some fn) (hb : fn.body = some c) (hname : (fn.name == "runtime.NumGoroutine") = false)
    (hG : TabOK Tryd.prog G) (hr : ∀ a b v, f a b = some v → R Tryd.prog G fn [.int .i64 a, .int .i64 b] = some v ∧ plainV v = true) (hF : TabOK Tryd.prog F) : TabOK Tryd.prog (andF k (i2 f) F) :=
  andF_ok hfn hb hname (fun ar v h => by
    obtain ⟨a, b, rfl, h1⟩ := i2_some h
    obtain ⟨h2, h3⟩ := hr a b v h1
    exact ⟨rfl, h3, fun w => plain_callsV regOK (tab_ok hG) hfn hb hname h2 rfl h3 w⟩) hF
theorem F1_ok : TabOK Tryd.prog F1 := ent1 Tryd.func36 rfl (by kernel_rfl) noF_ok (fun a v h => by cases h; exact ⟨t36 a, rfl⟩) noF_ok
theorem t33 (a b : Int) : R Tryd.prog F1 Tryd.f33 [.int .i64 a, .int .i64 b] = some (.int .i64 (W (a + b))) := by
  have h : R Tryd.prog F1 Tryd.f33 [.int .i64 a, .int .i64 b] = some (.int .i64 (W (IntKind.wrap IntKind.i64 (a + b)))) := by kernel_rfl
  rw [h, W_wrap]
theorem t34 (a b : Int) : R Tryd.prog F1 Tryd.f34 [.int .i64 a, .int .i64 b] = some (.int .i64 (W (a * b))) := by
  have h : R Tryd.prog F1 Tryd.f34 [.int .i64 a, .int .i64 b] = some (.int .i64 (W (IntKind.wrap IntKind.i64 (a * b)))) := by kernel_rfl
  rw [h, W_wrap]
theorem t35 (a b : Int) : R Tryd.prog F1 Tryd.f35 [.int .i64 a, .int .i64 b] = some (.int .i64 (W (a - b))) := by
  have h : R Tryd.prog F1 Tryd.f35 [.int .i64 a, .int .i64 b] = some (.int .i64 (W (IntKind.wrap IntKind.i64 (a - b)))) := by kernel_rfl
  rw [h, W_wrap]
theorem t12 (a b : Int) : R Tryd.prog F1 Tryd.f12 [.int .i64 a, .int .i64 b] = some (.tuple ⟨[.int .i64 (qM a b), .bool (okM b)]⟩) := by
  have h : R Tryd.prog F1 Tryd.f12 [.int .i64 a, .int .i64 b] = (bif W b == 0 then some (Value.tuple { toList := [Value.int IntKind.i64 0, Value.bool Bool.false] }) else bif decide (W b = 0) then none else some (Value.tuple { toList := [Value.int IntKind.i64 (W (IntKind.wrap IntKind.i64 (Int.tdiv (W a) (W b)))), Value.bool Bool.true] })) := by kernel_rfl
  rw [h]
  unfold qM okM
  by_cases hb : W b = 0
  · rw [if_pos hb, hb]; rfl
  · rw [if_neg hb, beq_eq_false_iff_ne.2 hb, decide_eq_false hb, bne_iff_ne.2 hb, W_wrap]; rfl
theorem t13 (a b : Int) : R Tryd.prog F1 Tryd.f13 [.int .i64 a, .int .i64 b] = some (.tuple ⟨[.int .i64 (rM a b), .bool (okM b)]⟩) := by
  have h : R Tryd.prog F1 Tryd.f13 [.int .i64 a, .int .i64 b] = (bif W b == 0 then some (Value.tuple { toList := [Value.int IntKind.i64 0, Value.bool Bool.false] }) else bif decide (W b = 0) then none else some (Value.tuple { toList := [Value.int IntKind.i64 (Int.tmod (W a) (W b)), Value.bool Bool.true] })) := by kernel_rfl
  rw [h]
  unfold rM okM
  by_cases hb : W b = 0
  · rw [if_pos hb, hb]; rfl
  · rw [if_neg hb, beq_eq_false_iff_ne.2 hb, decide_eq_false hb, bne_iff_ne.2 hb]; rfl
theorem u64_in (n : Int) (h0 : 0 ≤ n) (h1 : n ≤ 62) : IntKind.u64.wrap n = n := by rw [u64w]; omega
theorem min_in (n : Int) (h0 : 0 ≤ n) (h1 : n ≤ 62) : Min.min (Int.toNat n) 64 = n.toNat := by omega
theorem t16 (a b : Int) : R Tryd.prog F1 Tryd.f16 [.int .i64 a, .int .i64 b] = some (.int .i64 (shlM a b)) := by
  have h : R Tryd.prog F1 Tryd.f16 [.int .i64 a, .int .i64 b] = (bif decide (b < 0) then some (Value.int IntKind.i64 0) else bif decide (b > 62) then some (Value.int IntKind.i64 0) else bif decide (IntKind.wrap IntKind.u64 b < 0) then none else some (Value.int IntKind.i64 (W (IntKind.wrap IntKind.i64 (a * 2 ^ Min.min (Int.toNat (IntKind.wrap IntKind.u64 b)) 64))))) := by kernel_rfl
  rw [h]
  unfold shlM
  by_cases h1 : b < 0
  · rw [decide_eq_true h1, if_pos (.inl h1)]; rfl
  by_cases h2 : b > 62
  · rw [decide_eq_false h1, decide_eq_true h2, if_pos (.inr h2)]; rfl
  rw [decide_eq_false h1, decide_eq_false h2, if_neg (by omega), u64_in b (by omega) (by omega), decide_eq_false h1, min_in b (by omega) (by omega), W_wrap]; rfl
theorem t15 (a b : Int) : R Tryd.prog F1 Tryd.f15 [.int .i64 a, .int .i64 b] = some (.int .i64 (shrM a b)) := by
  have h : R Tryd.prog F1 Tryd.f15 [.int .i64 a, .int .i64 b] = (bif decide (b < 0) then some (Value.int IntKind.i64 (Int.fdiv (W a) (2 ^ Min.min (Int.toNat (IntKind.wrap IntKind.u64 63)) 64))) else bif decide (b > 62) then some (Value.int IntKind.i64 (Int.fdiv (W a) (2 ^ Min.min (Int.toNat (IntKind.wrap IntKind.u64 63)) 64))) else bif decide (IntKind.wrap IntKind.u64 b < 0) then none else some (Value.int IntKind.i64 (Int.fdiv (W a) (2 ^ Min.min (Int.toNat (IntKind.wrap IntKind.u64 b)) 64)))) := by kernel_rfl
  rw [h]
  unfold shrM
  have h63 : Min.min (Int.toNat (IntKind.wrap IntKind.u64 63)) 64 = 63 := by rw [u64w]; rfl
  by_cases h1 : b < 0
  · rw [decide_eq_true h1, if_pos (.inl h1), h63, fdiv_pow]; rfl
  by_cases h2 : b > 62
  · rw [decide_eq_false h1, decide_eq_true h2, if_pos (.inr h2), h63, fdiv_pow]; rfl
  rw [decide_eq_false h1, decide_eq_false h2, if_neg (by omega), u64_in b (by omega) (by omega), decide_eq_false h1, min_in b (by omega) (by omega)]
  simp only [cond_false, fdiv_pow]
theorem F2_ok : TabOK Tryd.prog F2 :=
  ent2 Tryd.func33 rfl (by kernel_rfl) F1_ok (fun a b v h => by cases h; exact ⟨t33 a b, rfl⟩) <|
  ent2 Tryd.func34 rfl (by kernel_rfl) F1_ok (fun a b v h => by cases h; exact ⟨t34 a b, rfl⟩) <|
  ent2 Tryd.func35 rfl (by kernel_rfl) F1_ok (fun a b v h => by cases h; exact ⟨t35 a b, rfl⟩) <|
  ent2 Tryd.func12 rfl (by kernel_rfl) F1_ok (fun a b v h => by cases h; exact ⟨t12 a b, rfl⟩) <|
  ent2 Tryd.func13 rfl (by kernel_rfl) F1_ok (fun a b v h => by cases h; exact ⟨t13 a b, rfl⟩) <|
  ent2 Tryd.func16 rfl (by kernel_rfl) F1_ok (fun a b v h => by cases h; exact ⟨t16 a b, rfl⟩) <|
  ent2 Tryd.func15 rfl (by kernel_rfl) F1_ok (fun a b v h => by cases h; exact ⟨t15 a b, rfl⟩) F1_ok
end Go.Proofs.YtjhlfolgadaliaaDoor.AI
