/- Functions of whole numbers, run with numbers that are not known. -/
import Derived.Test.YtjhlfolgadaliaaDoorSXb
import Derived.Laws.BitsLemmas
import Derived.KernelRfl
namespace Go.Proofs.YtjhlfolgadaliaaDoor.AI
open Go Go.RowKit 
set_option linter.unusedVariables false
set_option linter.unusedSimpArgs false
def uw (x : Int) : Int := IntKind.wrap IntKind.u64 x
def bAnd (a b : Int) : Int := IntKind.wrap IntKind.u64 ↑(BitVec.toNat (BitVec.ofInt 64 a &&& BitVec.ofInt 64 b))
def bOr (a b : Int) : Int := IntKind.wrap IntKind.u64 ↑(BitVec.toNat (BitVec.ofInt 64 a ||| BitVec.ofInt 64 b))
def bXor (a b : Int) : Int := IntKind.wrap IntKind.u64 ↑(BitVec.toNat (BitVec.ofInt 64 a ^^^ BitVec.ofInt 64 b))
def bAndNot (a b : Int) : Int := IntKind.wrap IntKind.u64 ↑(BitVec.toNat (BitVec.ofInt 64 a &&& ~~~BitVec.ofInt 64 b))
def bShl (a n : Int) : Int := IntKind.wrap IntKind.u64 (a * 2 ^ Min.min (Int.toNat n) 64)
def bShr (a n : Int) : Int := Int.fdiv a (2 ^ Min.min (Int.toNat n) 64)
def maskM (n : Int) : Int := uw (bShl 1 (uw n) - 1)
def withinM (a n : Int) : Bool := decide (a ≥ 0) && (decide (n ≥ 0) && (decide (n ≤ 64) && decide (a ≤ IntKind.wrap IntKind.i64 (64 - n))))
def FieldM (w a n : Int) : Int := bif withinM a n then bAnd (bShr w (uw a)) (maskM n) else 0
def WithM (w a n v : Int) : Int := bif withinM a n then bOr (bAndNot w (bShl (maskM n) (uw a))) (bShl (bAnd v (maskM n)) (uw a)) else w
def BitM (w a : Int) : Bool := decide (a ≥ 0) && (decide (a < 64) && (bAnd (bShr w (uw a)) 1 == 1))
def uii (f : Int → Int → Int → Option Value) (ar : List Value) : Option Value := match ar with | [.int .u64 w, .int .i64 a, .int .i64 n] => f w a n | _ => none
def uiiu (f : Int → Int → Int → Int → Option Value) (ar : List Value) : Option Value := match ar with | [.int .u64 w, .int .i64 a, .int .i64 n, .int .u64 v] => f w a n v | _ => none
def ui (f : Int → Int → Option Value) (ar : List Value) : Option Value := match ar with | [.int .u64 w, .int .i64 a] => f w a | _ => none
def F3 : FuncId → List Value → Option Value := andF 39 (i2 fun a n => some (.bool (withinM a n))) <| andF 38 (i1 fun n => some (.int .u64 (maskM n))) <| andF 40 (ui fun w a => some (.bool (BitM w a))) F2
def F4 : FuncId → List Value → Option Value := andF 19 (uii fun w a n => some (.int .u64 (FieldM w a n))) <| andF 20 (uiiu fun w a n v => some (.int .u64 (WithM w a n v))) F3
theorem ofInt_nat (a : Nat) : (BitVec.ofInt 64 (a : Int)) = BitVec.ofNat 64 a := by simp
theorem lt64 {a : Nat} (h : a < 2 ^ 64) : a % 2 ^ 64 = a := Nat.mod_eq_of_lt h

theorem and_nat (a b : Nat) (ha : a < 2 ^ 64) (hb : b < 2 ^ 64) : bAnd a b = ((a &&& b : Nat) : Int) := by
  have e : bAnd a b = IntKind.u64.wrap ((BitVec.ofInt 64 (a : Int) &&& BitVec.ofInt 64 (b : Int)).toNat : Int) := rfl
  rw [e, ofInt_nat, ofInt_nat, BitVec.toNat_and, BitVec.toNat_ofNat, BitVec.toNat_ofNat, lt64 ha, lt64 hb, u64w]
  have : a &&& b < 2 ^ 64 := Nat.lt_of_le_of_lt Nat.and_le_left ha
  omega
theorem or_nat (a b : Nat) (ha : a < 2 ^ 64) (hb : b < 2 ^ 64) : bOr a b = ((a ||| b : Nat) : Int) := by
  have e : bOr a b = IntKind.u64.wrap ((BitVec.ofInt 64 (a : Int) ||| BitVec.ofInt 64 (b : Int)).toNat : Int) := rfl
  rw [e, ofInt_nat, ofInt_nat, BitVec.toNat_or, BitVec.toNat_ofNat, BitVec.toNat_ofNat, lt64 ha, lt64 hb, u64w]
  have : a ||| b < 2 ^ 64 := Nat.or_lt_two_pow ha hb
  omega
theorem xor_nat (a b : Nat) (ha : a < 2 ^ 64) (hb : b < 2 ^ 64) : bXor a b = ((a ^^^ b : Nat) : Int) := by
  have e : bXor a b = IntKind.u64.wrap ((BitVec.ofInt 64 (a : Int) ^^^ BitVec.ofInt 64 (b : Int)).toNat : Int) := rfl
  rw [e, ofInt_nat, ofInt_nat, BitVec.toNat_xor, BitVec.toNat_ofNat, BitVec.toNat_ofNat, lt64 ha, lt64 hb, u64w]
  have : a ^^^ b < 2 ^ 64 := Nat.xor_lt_two_pow ha hb
  omega
/-- The turn of a map. -/
def turn (b : Nat) : Nat := 18446744073709551615 - b
theorem turn_bit (b i : Nat) (hb : b < 2 ^ 64) : (turn b).testBit i = (decide (i < 64) && !b.testBit i) := by
  have : turn b = 2 ^ 64 - (b + 1) := by unfold turn; omega
  rw [this, Nat.testBit_two_pow_sub_succ hb]
theorem andNot_nat (a b : Nat) (ha : a < 2 ^ 64) (hb : b < 2 ^ 64) : bAndNot a b = ((a &&& turn b : Nat) : Int) := by
  have e : bAndNot a b = IntKind.u64.wrap ((BitVec.ofInt 64 (a : Int) &&& ~~~BitVec.ofInt 64 (b : Int)).toNat : Int) := rfl
  rw [e, ofInt_nat, ofInt_nat, BitVec.toNat_and, BitVec.toNat_not, BitVec.toNat_ofNat, BitVec.toNat_ofNat, lt64 ha, lt64 hb, u64w]
  have h2 : 2 ^ 64 - 1 - b = turn b := by unfold turn; omega
  rw [h2]
  have : a &&& turn b < 2 ^ 64 := Nat.lt_of_le_of_lt Nat.and_le_left ha
  omega
theorem cast_mul_pow (a n : Nat) : (a : Int) * 2 ^ n = ((a * 2 ^ n : Nat) : Int) := by rw [Int.natCast_mul, Int.natCast_pow]; rfl
theorem cast_pow (n : Nat) : (2 : Int) ^ n = ((2 ^ n : Nat) : Int) := by rw [Int.natCast_pow]; rfl
theorem shl_nat (a n : Nat) : bShl a n = ((a * 2 ^ n % 2 ^ 64 : Nat) : Int) := by
  simp only [bShl, u64w, Int.toNat_natCast]
  by_cases h : n ≤ 64
  · rw [Nat.min_eq_left h]
    rw [cast_mul_pow]; omega
  · rw [Nat.min_eq_right (by omega)]
    have h1 : a * 2 ^ n % 2 ^ 64 = 0 := by
      obtain ⟨k, rfl⟩ : ∃ k, n = 64 + k := ⟨n - 64, by omega⟩
      rw [Nat.pow_add, ← Nat.mul_assoc, Nat.mul_right_comm]
      exact Nat.mul_mod_left _ _
    rw [h1]
    rw [cast_mul_pow]
    omega
theorem shr_nat (a n : Nat) (ha : a < 2 ^ 64) : bShr a n = ((a / 2 ^ n : Nat) : Int) := by
  simp only [bShr, Int.toNat_natCast, fdiv_pow]
  by_cases h : n ≤ 64
  · rw [Nat.min_eq_left h, cast_pow]; rfl
  · rw [Nat.min_eq_right (by omega)]
    have h1 : a / 2 ^ n = 0 := Nat.div_eq_of_lt (Nat.lt_of_lt_of_le ha (Nat.pow_le_pow_right (by omega) (by omega)))
    have h2 : (a : Int) / 2 ^ 64 = 0 := by
      have := Nat.div_eq_of_lt ha
      rw [cast_pow]
      omega
    rw [h1, h2]; rfl
theorem shl_bit (a n i : Nat) : (a * 2 ^ n % 2 ^ 64).testBit i = (decide (i < 64) && (decide (n ≤ i) && a.testBit (i - n))) := by
  rw [Nat.testBit_mod_two_pow, Nat.testBit_mul_two_pow]
theorem shr_bit (a n i : Nat) : (a / 2 ^ n).testBit i = a.testBit (n + i) := by
  rw [← Nat.shiftRight_eq_div_pow, Nat.testBit_shiftRight]
theorem mask_nat (n : Nat) (h : n ≤ 64) : IntKind.u64.wrap (bShl 1 n - 1) = ((2 ^ n - 1 : Nat) : Int) := by
  have := shl_nat 1 n
  rw [show ((1 : Nat) : Int) = 1 from rfl] at this
  rw [this, u64w]
  by_cases h64 : n = 64
  · subst h64; decide
  · have h1 : 2 ^ n < 2 ^ 64 := Nat.pow_lt_pow_right (by omega) (by omega)
    have h2 : 0 < 2 ^ n := Nat.two_pow_pos n
    rw [Nat.one_mul, Nat.mod_eq_of_lt h1]
    omega
theorem mask_bit (n i : Nat) : (2 ^ n - 1).testBit i = decide (i < n) := Nat.testBit_two_pow_sub_one n i
theorem mask_lt (n : Nat) (h : n ≤ 64) : 2 ^ n - 1 < 2 ^ 64 := by
  have h1 : 2 ^ n ≤ 2 ^ 64 := Nat.pow_le_pow_right (by omega) h
  have h2 : 0 < 2 ^ n := Nat.two_pow_pos n
  omega
/-- A run of a map's bits. -/
def fieldN (w at_ n : Nat) : Nat := w / 2 ^ at_ &&& (2 ^ n - 1)
def withN (w at_ n v : Nat) : Nat := (w &&& turn ((2 ^ n - 1) * 2 ^ at_ % 2 ^ 64)) ||| ((v &&& (2 ^ n - 1)) * 2 ^ at_ % 2 ^ 64)
theorem fieldN_bit (w at_ n i : Nat) : (fieldN w at_ n).testBit i = (w.testBit (at_ + i) && decide (i < n)) := by
  simp only [fieldN, Nat.testBit_and, shr_bit, mask_bit]
theorem withN_bit (w at_ n v i : Nat) (hw : w < 2 ^ 64) : (withN w at_ n v).testBit i = (decide (i < 64) && (if at_ ≤ i ∧ i < at_ + n then v.testBit (i - at_) else w.testBit i)) := by
  simp only [withN, Nat.testBit_or, Nat.testBit_and]
  rw [turn_bit _ _ (Nat.mod_lt _ (Nat.two_pow_pos 64))]
  simp only [shl_bit, Nat.testBit_and, mask_bit]
  by_cases h : i < 64
  · by_cases h1 : at_ ≤ i
    · by_cases h2 : i < at_ + n
      · have h3 : i - at_ < n := by omega
        simp [h, h1, h2, h3]
      · have h3 : ¬ i - at_ < n := by omega
        simp [h, h1, h2, h3]
    · simp [h, h1]
  · simp [h]
theorem withN_lt (w at_ n v : Nat) (hw : w < 2 ^ 64) : withN w at_ n v < 2 ^ 64 :=
  Nat.or_lt_two_pow (Nat.lt_of_le_of_lt Nat.and_le_left hw) (Nat.mod_lt _ (Nat.two_pow_pos 64))
theorem fieldN_lt (w at_ n : Nat) : fieldN w at_ n < 2 ^ n :=
  Nat.lt_of_le_of_lt Nat.and_le_right (by have := Nat.two_pow_pos n; omega)
theorem fieldN_eq (w at_ n : Nat) : fieldN w at_ n = w / 2 ^ at_ % 2 ^ n := by
  unfold fieldN; exact Nat.and_two_pow_sub_one_eq_mod _ _
theorem nat_of_wf {x : Int} (h : (Lit.int .u64 x).wf = true) : ∃ a : Nat, x = a ∧ a < 2 ^ 64 := by
  simp [Lit.wf, IntKind.min, IntKind.max, IntKind.bits, IntKind.signed] at h
  exact ⟨x.toNat, by omega, by omega⟩
theorem i64_of_wf {x : Int} (h : (Lit.int .i64 x).wf = true) : -9223372036854775808 ≤ x ∧ x ≤ 9223372036854775807 := by
  simp [Lit.wf, IntKind.min, IntKind.max, IntKind.bits, IntKind.signed] at h
  omega
theorem t39 (a b : Int) : R Tryd.prog F2 Tryd.f39 [.int .i64 a, .int .i64 b] = some (.bool (withinM a b)) := by
  have h : R Tryd.prog F2 Tryd.f39 [.int .i64 a, .int .i64 b] = (bif decide (a ≥ 0) then bif decide (b ≥ 0) then bif decide (b ≤ 64) then bif decide (a ≤ IntKind.wrap IntKind.i64 (64 - b)) then some (Value.bool Bool.true) else some (Value.bool Bool.false) else some (Value.bool Bool.false) else some (Value.bool Bool.false) else some (Value.bool Bool.false)) := by kernel_rfl
  rw [h]
  unfold withinM
  cases decide (a ≥ 0) <;> cases decide (b ≥ 0) <;> cases decide (b ≤ 64) <;> cases decide (a ≤ IntKind.wrap IntKind.i64 (64 - b)) <;> rfl
theorem u64nn (x : Int) : ¬ IntKind.u64.wrap x < 0 := by rw [u64w]; omega
theorem t38 (a : Int) : R Tryd.prog F2 Tryd.f38 [.int .i64 a] = some (.int .u64 (maskM a)) := by
  have h : R Tryd.prog F2 Tryd.f38 [.int .i64 a] = (bif decide (IntKind.wrap IntKind.u64 a < 0) then none else some (Value.int IntKind.u64 (IntKind.wrap IntKind.u64 (IntKind.wrap IntKind.u64 (1 * 2 ^ Min.min (Int.toNat (IntKind.wrap IntKind.u64 a)) 64) - 1)))) := by kernel_rfl
  rw [h, decide_eq_false (u64nn a)]; rfl
theorem t40 (a b : Int) : R Tryd.prog F2 Tryd.f40 [.int .u64 a, .int .i64 b] = some (.bool (BitM a b)) := by
  have h : R Tryd.prog F2 Tryd.f40 [.int .u64 a, .int .i64 b] = (bif decide (b ≥ 0) then bif decide (b < 64) then bif decide (IntKind.wrap IntKind.u64 b < 0) then none else bif IntKind.wrap IntKind.u64 ↑(BitVec.toNat (BitVec.ofInt 64 (Int.fdiv a (2 ^ Min.min (Int.toNat (IntKind.wrap IntKind.u64 b)) 64)) &&& BitVec.ofInt 64 1)) == 1 then some (Value.bool Bool.true) else some (Value.bool Bool.false) else some (Value.bool Bool.false) else some (Value.bool Bool.false)) := by kernel_rfl
  rw [h, decide_eq_false (u64nn b)]
  change (bif decide (b ≥ 0) then bif decide (b < 64) then bif bAnd (bShr a (uw b)) 1 == 1 then some (Value.bool Bool.true) else some (Value.bool Bool.false) else some (Value.bool Bool.false) else some (Value.bool Bool.false)) = _
  unfold BitM
  cases decide (b ≥ 0) <;> cases decide (b < 64) <;> cases (bAnd (bShr a (uw b)) 1 == 1) <;> rfl
theorem ui_some {f : Int → Int → Option Value} {ar : List Value} {v : Value} (h : ui f ar = some v) : ∃ a b, ar = [.int .u64 a, .int .i64 b] ∧ f a b = some v := by
  unfold ui at h
  split at h
  · exact ⟨_, _, rfl, h⟩
  · cases h
theorem uii_some {f : Int → Int → Int → Option Value} {ar : List Value} {v : Value} (h : uii f ar = some v) : ∃ w a b, ar = [.int .u64 w, .int .i64 a, .int .i64 b] ∧ f w a b = some v := by
  unfold uii at h
  split at h
  · exact ⟨_, _, _, rfl, h⟩
  · cases h
theorem uiiu_some {f : Int → Int → Int → Int → Option Value} {ar : List Value} {v : Value} (h : uiiu f ar = some v) : ∃ w a b x, ar = [.int .u64 w, .int .i64 a, .int .i64 b, .int .u64 x] ∧ f w a b x = some v := by
  unfold uiiu at h
  split at h
  · exact ⟨_, _, _, _, rfl, h⟩
  · cases h
/-- What a function owes to stand in a table. -/
theorem entP {k : FuncId} {fn : Func} {c : Code} {f : List Value → Option Value} {F G : FuncId → List Value → Option Value} (hfn : Tryd.prog.funcs[k]? = some fn) (hb : fn.body = some c) (hname : (fn.name == "runtime.NumGoroutine") = false)
    (hG : TabOK Tryd.prog G) (hr : ∀ ar v, f ar = some v → ar.all plainV = true ∧ R Tryd.prog G fn ar = some v ∧ plainV v = true) (hF : TabOK Tryd.prog F) : TabOK Tryd.prog (andF k f F) :=
  andF_ok hfn hb hname (fun ar v h => by
    obtain ⟨h1, h2, h3⟩ := hr ar v h
    exact ⟨h1, h3, fun w => plain_callsV regOK (tab_ok hG) hfn hb hname h2 h1 h3 w⟩) hF
theorem F3_ok : TabOK Tryd.prog F3 :=
  ent2 Tryd.func39 rfl (by kernel_rfl) F2_ok (fun a b v h => by cases h; exact ⟨t39 a b, rfl⟩) <|
  ent1 Tryd.func38 rfl (by kernel_rfl) F2_ok (fun a v h => by cases h; exact ⟨t38 a, rfl⟩) <|
  entP Tryd.func40 rfl (by kernel_rfl) F2_ok (fun ar v h => by obtain ⟨a, b, rfl, h⟩ := ui_some h; cases h; exact ⟨rfl, t40 a b, rfl⟩) F2_ok
theorem t19 (w a b : Int) : R Tryd.prog F3 Tryd.f19 [.int .u64 w, .int .i64 a, .int .i64 b] = some (.int .u64 (FieldM w a b)) := by
  have h : R Tryd.prog F3 Tryd.f19 [.int .u64 w, .int .i64 a, .int .i64 b] = (bif withinM a b then bif decide (IntKind.wrap IntKind.u64 a < 0) then none else some (Value.int IntKind.u64 (IntKind.wrap IntKind.u64 ↑(BitVec.toNat (BitVec.ofInt 64 (Int.fdiv w (2 ^ Min.min (Int.toNat (IntKind.wrap IntKind.u64 a)) 64)) &&& BitVec.ofInt 64 (maskM b))))) else some (Value.int IntKind.u64 0)) := by kernel_rfl
  rw [h, decide_eq_false (u64nn a)]
  unfold FieldM
  cases withinM a b <;> rfl
theorem t20 (w a b v : Int) : R Tryd.prog F3 Tryd.f20 [.int .u64 w, .int .i64 a, .int .i64 b, .int .u64 v] = some (.int .u64 (WithM w a b v)) := by
  have h : R Tryd.prog F3 Tryd.f20 [.int .u64 w, .int .i64 a, .int .i64 b, .int .u64 v] = (bif withinM a b then bif decide (IntKind.wrap IntKind.u64 a < 0) then none else bif decide (IntKind.wrap IntKind.u64 a < 0) then none else some (Value.int IntKind.u64 (IntKind.wrap IntKind.u64 ↑(BitVec.toNat (BitVec.ofInt 64 (IntKind.wrap IntKind.u64 ↑(BitVec.toNat (BitVec.ofInt 64 w &&& ~~~BitVec.ofInt 64 (IntKind.wrap IntKind.u64 (maskM b * 2 ^ Min.min (Int.toNat (IntKind.wrap IntKind.u64 a)) 64))))) ||| BitVec.ofInt 64 (IntKind.wrap IntKind.u64 (IntKind.wrap IntKind.u64 ↑(BitVec.toNat (BitVec.ofInt 64 v &&& BitVec.ofInt 64 (maskM b))) * 2 ^ Min.min (Int.toNat (IntKind.wrap IntKind.u64 a)) 64)))))) else some (Value.int IntKind.u64 w)) := by kernel_rfl
  rw [h, decide_eq_false (u64nn a)]
  unfold WithM
  cases withinM a b <;> rfl
theorem F4_ok : TabOK Tryd.prog F4 :=
  entP Tryd.func19 rfl (by kernel_rfl) F3_ok (fun ar v h => by obtain ⟨w, a, b, rfl, h⟩ := uii_some h; cases h; exact ⟨rfl, t19 w a b, rfl⟩) <|
  entP Tryd.func20 rfl (by kernel_rfl) F3_ok (fun ar v h => by obtain ⟨w, a, b, x, rfl, h⟩ := uiiu_some h; cases h; exact ⟨rfl, t20 w a b x, rfl⟩) F3_ok
theorem uw_nat (n : Nat) (h : n < 2 ^ 64) : uw (n : Int) = n := by unfold uw; rw [u64w]; omega
theorem within_nat (a n : Nat) (h : a + n ≤ 64) : withinM a n = true := by
  unfold withinM
  rw [decide_eq_true (show (a : Int) ≥ 0 by omega), decide_eq_true (show (n : Int) ≥ 0 by omega), decide_eq_true (show (n : Int) ≤ 64 by omega), decide_eq_true (show (a : Int) ≤ IntKind.i64.wrap (64 - n) by rw [i64w]; omega)]; rfl
theorem maskM_nat (n : Nat) (h : n ≤ 64) : maskM n = ((2 ^ n - 1 : Nat) : Int) := by unfold maskM; rw [uw_nat n (by omega)]; exact mask_nat n h
theorem With_nat (w a n v : Nat) (hw : w < 2 ^ 64) (hv : v < 2 ^ 64) (h : a + n ≤ 64) : WithM w a n v = ((withN w a n v : Nat) : Int) := by
  unfold WithM
  have hm := mask_lt n (by omega)
  rw [within_nat a n h, cond_true, maskM_nat n (by omega), uw_nat a (by omega), shl_nat, andNot_nat _ _ hw (Nat.mod_lt _ (Nat.two_pow_pos 64)), and_nat _ _ hv hm, shl_nat,
    or_nat _ _ (Nat.lt_of_le_of_lt Nat.and_le_left hw) (Nat.mod_lt _ (Nat.two_pow_pos 64))]
  rfl
theorem Field_nat (w a n : Nat) (hw : w < 2 ^ 64) (h : a + n ≤ 64) : FieldM w a n = ((fieldN w a n : Nat) : Int) := by
  unfold FieldM
  have hm := mask_lt n (by omega)
  rw [within_nat a n h, cond_true, maskM_nat n (by omega), uw_nat a (by omega), shr_nat _ _ hw, and_nat _ _ (Nat.lt_of_le_of_lt (Nat.div_le_self _ _) hw) hm]
  rfl
end Go.Proofs.YtjhlfolgadaliaaDoor.AI
