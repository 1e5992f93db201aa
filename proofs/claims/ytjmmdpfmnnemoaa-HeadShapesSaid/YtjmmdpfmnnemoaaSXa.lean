/- Shapes. -/
import Derived.Test.YtjmmdpfmnnemoaaProg
import Derived.Test.YtjmmdpfmnnemoaaAIlo
import Derived.Laws.BitsLemmas
import Derived.KernelRfl
namespace Go.Proofs.Ytjmmdpfmnnemoaa.AI
open Go Go.RowKit 
set_option linter.unusedVariables false
set_option linter.unusedSimpArgs false
theorem hmix : Try.prog.follows .mixedOrders = true := by kernel_rfl
abbrev iv (n : Int) : Value := .int .i64 n
abbrev uv (n : Int) : Value := .int .u64 n
abbrev bo (b : Bool) : Option Value := some (.bool b)
/-- A shape. -/
abbrev sv (k f m : Int) : Value := .agg ⟨[iv k, iv f, uv m]⟩
abbrev lq : VTabs := []
theorem lq_g : GTab lq := fun x hx => by cases hx
noncomputable abbrev qA (F : TabF) (ins : List Nat) : CallA := mixA ins (callA Try.prog (glV lq) (regF Try.prog (glV lq)) 8 false) (sumQ (glV lq) lq (fun _ => 1) F)
noncomputable abbrev qK {R : Type} (F : TabF) (ins : List Nat) : CK R := mixK ins (inK Try.prog (glV lq) (regF Try.prog (glV lq)) 8) (sumQK (glV lq) lq (fun _ => 1) F)
theorem qA_ok {F : TabF} (hF : TabQ Try.prog lq F) (ins : List Nat) : CallOK Try.prog (glV lq) (qA F ins) := mixA_ok (callA_ok (regF_ok hmix) 8).1 (sumQ_ok lq_g _ hF)
theorem qK_ok {R : Type} (F : TabF) (ins : List Nat) : CKok (R := R) (qA F ins) (qK F ins) := mixK_ok (inK_ok 8) (sumQK_ok _ _ _ _)
/-- A function's run. -/
noncomputable abbrev RF (F : TabF) (ins : List Nat) (LK : LoopK Value) (fn : Func) (ar : List Value) : Option Value := runQ Try.prog lq (qA F ins) (qK F ins) LK 1 fn ar
/-- From a run with no loops. -/
theorem conF {F : TabF} (hF : TabQ Try.prog lq F) (ins : List Nat) {g : FuncId} {fn : Func} {c : Code} {ar : List Value} {v : Value} (hfn : Try.prog.funcs[g]? = some fn) (hb : fn.body = some c) (hname : (fn.name == "runtime.NumGoroutine") = false) (hr : RF F ins noLK fn ar = some v) : ConQ Try.prog lq g ar v :=
  conQ hmix (qA_ok hF ins) (qK_ok F ins) noLK_ok hfn hb hname noLO_ok hr
theorem u64w (x : Int) : IntKind.u64.wrap x = x % 18446744073709551616 := by simp [IntKind.wrap, IntKind.bits, IntKind.signed]
theorem fdiv_pow (a : Int) (n : Nat) : Int.fdiv a (2 ^ n) = a / 2 ^ n := Int.fdiv_eq_ediv_of_nonneg a (Int.le_of_lt (Int.pow_pos (by decide)))
theorem cast_pow (n : Nat) : (2 : Int) ^ n = ((2 ^ n : Nat) : Int) := by rw [Int.natCast_pow]; rfl
theorem ofInt_nat (a : Nat) : (BitVec.ofInt 64 (a : Int)) = BitVec.ofNat 64 a := by simp
/-- m >> i. -/
abbrev shr (m i : Int) : Int := Int.fdiv m (2 ^ Min.min (Int.toNat (IntKind.wrap IntKind.u64 i)) 64)
theorem shr_is (m i : Nat) (hi : i < 64) : shr m i = ((m / 2 ^ i : Nat) : Int) := by
  unfold shr
  have e : IntKind.wrap IntKind.u64 (i : Int) = i := by rw [u64w]; omega
  rw [e, Int.toNat_natCast, Nat.min_eq_left (by omega), fdiv_pow, cast_pow]
  rfl
/-- Is bit i set? as the program asks. -/
abbrev bitX (m i : Int) : Bool := IntKind.wrap IntKind.u64 (↑(BitVec.toNat (BitVec.ofInt 64 (shr m i) &&& BitVec.ofInt 64 1)) : Int) == 1
theorem bitX_is (m i : Nat) (hm : m < 2 ^ 64) (hi : i < 64) : bitX m i = m.testBit i := by
  unfold bitX
  rw [shr_is m i hi]
  have hd : m / 2 ^ i < 2 ^ 64 := Nat.lt_of_le_of_lt (Nat.div_le_self _ _) hm
  have e : (BitVec.toNat (BitVec.ofInt 64 ((m / 2 ^ i : Nat) : Int) &&& BitVec.ofInt 64 1)) = m / 2 ^ i % 2 := by
    rw [BitVec.toNat_and]
    have h1 : (BitVec.ofInt 64 ((m / 2 ^ i : Nat) : Int)).toNat = m / 2 ^ i := by
      rw [ofInt_nat, BitVec.toNat_ofNat, Nat.mod_eq_of_lt hd]
    have h2 : (BitVec.ofInt 64 1).toNat = 1 := by rfl
    rw [h1, h2, Nat.and_one_is_mod]
  rw [e, Nat.testBit_eq_decide_div_mod_eq, u64w]
  by_cases h1 : m / 2 ^ i % 2 = 1
  · rw [h1]; rfl
  · rw [decide_eq_false h1, beq_eq_false_iff_ne]; omega
/-- What the document says of a shape. -/
def GoodP (k f : Int) (m : Nat) : Prop := ((k = 0 ∨ k = 2) ∧ 0 ≤ f ∧ f ≤ 63 ∧ m / 2 ^ f.toNat = 0) ∨ ((k = 1 ∨ k = 3) ∧ f = 0 ∧ m ≤ 1)
noncomputable def gd (k f m : Int) : Bool := tst (GoodP k f m.toNat)
theorem gd_eq {k f : Int} {m : Nat} {b : Bool} (h : b = true ↔ GoodP k f m) : gd k f m = b := by
  unfold gd
  rw [Int.toNat_natCast]
  cases b with
  | true => exact tst_of (h.1 rfl)
  | false =>
    cases ht : tst (GoodP k f m) with
    | false => rfl
    | true => exact absurd (h.2 (of_tst ht)) (by decide)
theorem good_run (k f : Int) (m : Nat) : RF noG [] noLK Try.f14 [sv k f m] = bo (gd k f m) := by
  refine Eq.trans (b := bif k == 0 then bif decide (f ≥ 0) then bif decide (f ≤ 63) then bif decide (IntKind.wrap IntKind.u64 f < 0) then none else bif shr m f == 0 then some (Value.bool Bool.true) else some (Value.bool Bool.false) else some (Value.bool Bool.false) else some (Value.bool Bool.false) else bif k == 2 then bif decide (f ≥ 0) then bif decide (f ≤ 63) then bif decide (IntKind.wrap IntKind.u64 f < 0) then none else bif shr m f == 0 then some (Value.bool Bool.true) else some (Value.bool Bool.false) else some (Value.bool Bool.false) else some (Value.bool Bool.false) else bif k == 1 then bif f == 0 then bif decide ((m : Int) ≤ 1) then some (Value.bool Bool.true) else some (Value.bool Bool.false) else some (Value.bool Bool.false) else bif k == 3 then bif f == 0 then bif decide ((m : Int) ≤ 1) then some (Value.bool Bool.true) else some (Value.bool Bool.false) else some (Value.bool Bool.false) else some (Value.bool Bool.false)) (by kernel_rfl) ?_
  have hA : ∀ (hk : k = 0 ∨ k = 2), (bif decide (f ≥ 0) then bif decide (f ≤ 63) then bif decide (IntKind.wrap IntKind.u64 f < 0) then none else bif shr m f == 0 then some (Value.bool Bool.true) else some (Value.bool Bool.false) else some (Value.bool Bool.false) else some (Value.bool Bool.false)) = bo (gd k f m) := by
    intro hk
    have hk1 : ¬ (k = 1 ∨ k = 3) := by omega
    by_cases h0 : f ≥ 0
    · by_cases h63 : f ≤ 63
      · obtain ⟨n, rfl⟩ : ∃ n : Nat, f = n := ⟨f.toNat, by omega⟩
        have hn : n < 64 := by omega
        have e : decide (IntKind.wrap IntKind.u64 (n : Int) < 0) = false := by rw [u64w]; exact decide_eq_false (by omega)
        rw [decide_eq_true h0, decide_eq_true h63, e, shr_is m n hn]
        rw [gd_eq (b := ((m / 2 ^ n : Nat) : Int) == 0)]
        · cases (((m / 2 ^ n : Nat) : Int) == 0) <;> rfl
        · rw [beq_iff_eq]
          constructor
          · intro h; exact .inl ⟨hk, h0, h63, by rw [Int.toNat_natCast]; omega⟩
          · rintro (⟨_, _, _, h⟩ | ⟨h, _⟩)
            · rw [Int.toNat_natCast] at h; omega
            · exact absurd h hk1
      · rw [decide_eq_true h0, decide_eq_false h63, gd_eq (b := false)]; rfl
        constructor
        · intro h; cases h
        · rintro (⟨_, _, h, _⟩ | ⟨h, _⟩)
          · exact absurd h h63
          · exact absurd h hk1
    · rw [decide_eq_false h0, gd_eq (b := false)]; rfl
      constructor
      · intro h; cases h
      · rintro (⟨_, h, _⟩ | ⟨h, _⟩)
        · exact absurd h h0
        · exact absurd h hk1
  have hB : ∀ (hk : k = 1 ∨ k = 3), (bif f == 0 then bif decide ((m : Int) ≤ 1) then some (Value.bool Bool.true) else some (Value.bool Bool.false) else some (Value.bool Bool.false)) = bo (gd k f m) := by
    intro hk
    have hk1 : ¬ (k = 0 ∨ k = 2) := by omega
    rw [gd_eq (b := (f == 0) && decide ((m : Int) ≤ 1))]
    · cases (f == 0) <;> cases decide ((m : Int) ≤ 1) <;> rfl
    · rw [Bool.and_eq_true, beq_iff_eq, decide_eq_true_eq]
      constructor
      · rintro ⟨h1, h2⟩; exact .inr ⟨hk, h1, by omega⟩
      · rintro (⟨h, _⟩ | ⟨_, h1, h2⟩)
        · exact absurd h hk1
        · exact ⟨h1, by omega⟩
  by_cases k0 : k = 0
  · rw [show (k == 0) = true by rw [k0]; rfl]; exact hA (.inl k0)
  · rw [show (k == 0) = false by rw [beq_eq_false_iff_ne]; exact k0, cond_false]
    by_cases k2 : k = 2
    · rw [show (k == 2) = true by rw [k2]; rfl]; exact hA (.inr k2)
    · rw [show (k == 2) = false by rw [beq_eq_false_iff_ne]; exact k2, cond_false]
      by_cases k1 : k = 1
      · rw [show (k == 1) = true by rw [k1]; rfl]; exact hB (.inl k1)
      · rw [show (k == 1) = false by rw [beq_eq_false_iff_ne]; exact k1, cond_false]
        by_cases k3 : k = 3
        · rw [show (k == 3) = true by rw [k3]; rfl]; exact hB (.inr k3)
        · rw [show (k == 3) = false by rw [beq_eq_false_iff_ne]; exact k3, gd_eq (b := false)]; rfl
          constructor
          · intro h; cases h
          · rintro (⟨h, _⟩ | ⟨h, _⟩) <;> omega
/-- The shape, behind a pointer. -/
abbrev hS (k f m : Int) : AH := mkHV lq [.row false 1 [iv k, iv f, uv m]]
abbrev p0 : Value := .pointer (some ⟨0, 0, none⟩)
abbrev vF : Value := .bool false
abbrev v17 (i : Int) : List Value := [p0, vF, iv i]
theorem t17l (k f m i : Int) : bodyRunK Try.prog (glV lq) (qA noG [25]) (qK noG [25]) noLK (loopN Try.f17 0) (stT [1, 2, 3] (v17 i) 38 (hS k f m)) [1, 2, 3] =
  bif decide (i < 64) then bif decide (i ≥ 0) then bif decide (i < 64) then bif decide (IntKind.wrap IntKind.u64 i < 0) then none else bif bitX m i then some (XA.ret, v17 i, hS k f m, 38) else some (XA.normal, v17 (IntKind.wrap IntKind.i64 (i + 1)), hS k f m, 38) else some (XA.normal, v17 (IntKind.wrap IntKind.i64 (i + 1)), hS k f m, 38) else some (XA.normal, v17 (IntKind.wrap IntKind.i64 (i + 1)), hS k f m, 38) else some (XA.exit 1, v17 i, hS k f m, 38) := by kernel_rfl
/-- Where the first bit is, from i on (64: nowhere). -/
def fstBit (m : Nat) : Nat → Nat → Nat
  | 0, i => i
  | n + 1, i => bif m.testBit i then i else fstBit m n (i + 1)
theorem fstBit_le (m : Nat) : ∀ n i, fstBit m n i ≤ i + n := by
  intro n
  induction n with
  | zero => intro i; exact Nat.le_refl _
  | succ n ih =>
    intro i
    unfold fstBit
    cases m.testBit i with
    | true => show i ≤ _; omega
    | false => have := ih (i + 1); show fstBit m n (i + 1) ≤ _; omega
theorem fstBit_all (m : Nat) : ∀ n i, fstBit m n i = i + n ↔ ∀ j, i ≤ j → j < i + n → m.testBit j = false := by
  intro n
  induction n with
  | zero => intro i; exact ⟨fun _ j h1 h2 => by omega, fun _ => rfl⟩
  | succ n ih =>
    intro i
    unfold fstBit
    cases hb : m.testBit i with
    | true =>
      constructor
      · intro h
        have h : i = i + (n + 1) := h
        omega
      · intro h; have := h i (Nat.le_refl _) (by omega); rw [hb] at this; cases this
    | false =>
      show fstBit m n (i + 1) = i + (n + 1) ↔ _
      rw [show i + (n + 1) = (i + 1) + n by omega, ih (i + 1)]
      constructor
      · intro h j h1 h2
        by_cases e : j = i
        · rw [e]; exact hb
        · exact h j (by omega) h2
      · intro h j h1 h2; exact h j (by omega) h2
theorem bits_zero (m f : Nat) (hm : m < 2 ^ 64) (hf : f < 64) : m / 2 ^ f = 0 ↔ ∀ j, f ≤ j → j < f + (64 - f) → m.testBit j = false := by
  rw [show f + (64 - f) = 64 by omega, ← Nat.shiftRight_eq_div_pow]
  constructor
  · intro h j h1 _
    have := Nat.testBit_shiftRight (i := f) (j := j - f) m
    rw [h, show f + (j - f) = j by omega] at this
    rw [← this]; exact Nat.zero_testBit _
  · intro h
    refine Nat.eq_of_testBit_eq fun i => ?_
    rw [Nat.testBit_shiftRight, Nat.zero_testBit]
    by_cases hi : f + i < 64
    · exact h _ (by omega) hi
    · exact Nat.testBit_lt_two_pow (Nat.lt_of_lt_of_le hm (Nat.pow_le_pow_right (by decide) (by omega)))
def x17 (b : Bool) : XA := bif b then .exit 1 else .ret
theorem lp17 (k f' : Int) (m f : Nat) (hm : m < 2 ^ 64) (hf : f < 64) : LoopTri Try.prog (glV lq) (hV lq) (loopN Try.f17 0) (stT [1, 2, 3] (v17 f) 38 (hS k f' m)) (x17 (decide (m / 2 ^ f = 0))) (stT [1, 2, 3] (v17 (fstBit m (64 - f) f : Nat)) 38 (hS k f' m)) := by
  have hl : LoopsOK Try.prog (glV lq) (hV lq) noLO (loopsOf (loopN Try.f17 0)) := noLO_ok
  have := loop_plainO hmix (qA_ok noQ_ok [25]) (qK_ok noG [25]) noLK_ok hl [1, 2, 3] (X := {i : Nat // i ≤ 64}) (fun i => v17 (i.1 : Int)) (fun i => 64 - i.1) (fun i => (x17 (decide (fstBit m (64 - i.1) i.1 = 64)), v17 (fstBit m (64 - i.1) i.1 : Nat))) (n := 38) (h := hS k f' m) ?_ ⟨f, by omega⟩
  · have e : decide (m / 2 ^ f = 0) = decide (fstBit m (64 - f) f = 64) := by
      rw [decide_eq_decide, bits_zero m f hm hf, ← fstBit_all, show f + (64 - f) = 64 by omega]
    rw [e]; exact this
  · rintro ⟨i, hi⟩
    dsimp only
    by_cases h : i < 64
    · obtain ⟨n, hn⟩ : ∃ n, 64 - i = n + 1 := ⟨63 - i, by omega⟩
      have ew : decide (IntKind.wrap IntKind.u64 (i : Int) < 0) = false := by rw [u64w]; exact decide_eq_false (by omega)
      have e1 : IntKind.wrap IntKind.i64 ((i : Int) + 1) = ((i + 1 : Nat) : Int) := by rw [i64w]; omega
      have hr := t17l k f' m i
      rw [decide_eq_true (show (i : Int) < 64 by omega), decide_eq_true (show (i : Int) ≥ 0 by omega), ew, bitX_is m i hm h, e1] at hr
      cases hb : m.testBit i with
      | true =>
        rw [hb] at hr
        have e2 : fstBit m (64 - i) i = i := by rw [hn]; unfold fstBit; rw [hb]; rfl
        refine ⟨_, _, hr, .inr ⟨by simp, ?_⟩⟩
        rw [e2, decide_eq_false (by omega)]; rfl
      | false =>
        rw [hb] at hr
        have e2 : fstBit m (64 - i) i = fstBit m (64 - (i + 1)) (i + 1) := by rw [hn, show 64 - (i + 1) = n by omega]; show (bif m.testBit i then i else fstBit m n (i + 1)) = _; rw [hb]; rfl
        exact ⟨_, _, hr, .inl ⟨rfl, ⟨i + 1, h⟩, rfl, by dsimp only; omega, by dsimp only; rw [e2]⟩⟩
    · obtain rfl : i = 64 := by omega
      have hr := t17l k f' m ((64 : Nat) : Int)
      rw [decide_eq_false (show ¬ ((64 : Nat) : Int) < 64 by omega)] at hr
      exact ⟨_, _, hr, .inr ⟨by simp, rfl⟩⟩
noncomputable abbrev lk17 {R : Type} (k f m : Int) (b : Bool) (j : Int) : LoopK R := lkQ 7 [1, 2, 3] (fun vs h s => some (tst (vs = v17 f ∧ h = hS k f m ∧ s = 38), x17 b, stT [1, 2, 3] (v17 j) 38 (hS k f m))) noLK
noncomputable abbrev lo17 (k f m : Int) (b : Bool) (j : Int) : LoopA := loQ 7 [1, 2, 3] (fun vs h s => some (tst (vs = v17 f ∧ h = hS k f m ∧ s = 38), x17 b, stT [1, 2, 3] (v17 j) 38 (hS k f m))) noLO
theorem ref_run (k f m : Int) (j : Int) (b : Bool) : RF noG [25] (lk17 k f m b j) Try.f17 [sv k f m] =
  bif k == 0 then bif decide (f < 0) then some vF else bif decide (f > 63) then some vF else (bif b then some (.bool true) else some vF) else bif k == 2 then bif decide (f < 0) then some vF else bif decide (f > 63) then some vF else (bif b then some (.bool true) else some vF) else
  bif k == 1 then bif f == 0 then bif decide (m ≤ 1) then some (Value.bool Bool.true) else some (Value.bool Bool.false) else some (Value.bool Bool.false) else bif k == 3 then bif f == 0 then bif decide (m ≤ 1) then some (Value.bool Bool.true) else some (Value.bool Bool.false) else some (Value.bool Bool.false) else some (Value.bool Bool.false) := by
  have ht : tst (v17 f = v17 f ∧ hS k f m = hS k f m ∧ 38 = 38) = true := tst_of ⟨rfl, rfl, rfl⟩
  refine Eq.trans (b := bif k == 0 then bif decide (f < 0) then some vF else bif decide (f > 63) then some vF else bif tst (v17 f = v17 f ∧ hS k f m = hS k f m ∧ 38 = 38) then (bif b then some (.bool true) else some vF) else none else bif k == 2 then bif decide (f < 0) then some vF else bif decide (f > 63) then some vF else bif tst (v17 f = v17 f ∧ hS k f m = hS k f m ∧ 38 = 38) then (bif b then some (.bool true) else some vF) else none else
    bif k == 1 then bif f == 0 then bif decide (m ≤ 1) then some (Value.bool Bool.true) else some (Value.bool Bool.false) else some (Value.bool Bool.false) else bif k == 3 then bif f == 0 then bif decide (m ≤ 1) then some (Value.bool Bool.true) else some (Value.bool Bool.false) else some (Value.bool Bool.false) else some (Value.bool Bool.false)) ?_ (by rw [ht]; rfl)
  cases b <;> kernel_rfl
theorem ref_run0 (k f m : Int) : RF noG [25] noLK Try.f17 [sv k f m] =
  bif k == 0 then bif decide (f < 0) then some vF else bif decide (f > 63) then some vF else none else bif k == 2 then bif decide (f < 0) then some vF else bif decide (f > 63) then some vF else none else
  bif k == 1 then bif f == 0 then bif decide (m ≤ 1) then some (Value.bool Bool.true) else some (Value.bool Bool.false) else some (Value.bool Bool.false) else bif k == 3 then bif f == 0 then bif decide (m ≤ 1) then some (Value.bool Bool.true) else some (Value.bool Bool.false) else some (Value.bool Bool.false) else some (Value.bool Bool.false) := by kernel_rfl
theorem beqI (a b : Int) : (a == b) = decide (a = b) := by
  by_cases h : a = b
  · rw [decide_eq_true h, beq_iff_eq]; exact h
  · rw [decide_eq_false h, beq_eq_false_iff_ne]; exact h
theorem ref_con (k f : Int) (m : Nat) (hm : m < 2 ^ 64) : ConQ Try.prog lq 17 [sv k f m] (.bool (gd k f m)) := by
  by_cases hk : (k = 0 ∨ k = 2) ∧ 0 ≤ f ∧ f ≤ 63
  · obtain ⟨hk, h0, h63⟩ := hk
    obtain ⟨n, rfl⟩ : ∃ n : Nat, f = n := ⟨f.toNat, by omega⟩
    have hlp := lp17 k (n : Int) m n hm (by omega)
    have hg : gd k n m = decide (m / 2 ^ n = 0) := gd_eq (by
      rw [decide_eq_true_eq]
      constructor
      · intro h; exact .inl ⟨hk, h0, h63, h⟩
      · rintro (⟨_, _, _, h⟩ | ⟨h, _⟩)
        · exact h
        · omega)
    rw [hg]
    refine conQ hmix (qA_ok noQ_ok [25]) (qK_ok noG [25]) (lkQ_ok noLK_ok) Try.func17 rfl (by kernel_rfl) (LO := lo17 k n m (decide (m / 2 ^ n = 0)) (fstBit m (64 - n) n : Nat)) ?_ ((ref_run k n m (fstBit m (64 - n) n : Nat) (decide (m / 2 ^ n = 0))).trans ?_)
    · refine loQ_ok (fun c' hc _ σ vs x' σ' hd hp h' => ?_) noLO_ok
      have e : loopsOf (bodyOf Try.f17) = [loopN Try.f17 0] := by kernel_rfl
      rw [e, List.mem_singleton] at hc
      subst hc
      simp only [Option.some.injEq, Prod.mk.injEq] at h'
      obtain ⟨ht, rfl, rfl⟩ := h'
      obtain ⟨rfl, hh, hs⟩ := of_tst ht
      exact hlp.enter (covers_T hs (picks_mkT hp) hh.symm hd.symm)
    · rw [beqI, beqI, decide_eq_false (show ¬ ((n : Int) < 0) by omega), decide_eq_false (show ¬ ((n : Int) > 63) by omega)]
      rcases hk with rfl | rfl
      · cases decide (m / 2 ^ n = 0) <;> rfl
      · cases decide (m / 2 ^ n = 0) <;> rfl
  · refine conQ hmix (qA_ok noQ_ok [25]) (qK_ok noG [25]) noLK_ok Try.func17 rfl (by kernel_rfl) noLO_ok ((ref_run0 k f m).trans ?_)
    have hF : ∀ b : Bool, (b = true ↔ GoodP k f m) → gd k f m = b := fun b h => gd_eq h
    by_cases k02 : k = 0 ∨ k = 2
    · have hg : gd k f m = false := by
        refine hF false ⟨(fun h => by cases h), ?_⟩
        rintro (⟨_, h1, h2, _⟩ | ⟨h, _⟩)
        · exact absurd ⟨k02, h1, h2⟩ hk
        · omega
      rw [hg, beqI, beqI]
      have hd : f < 0 ∨ f > 63 := by
        by_cases h1 : 0 ≤ f
        · by_cases h2 : f ≤ 63
          · exact absurd ⟨k02, h1, h2⟩ hk
          · exact .inr (by omega)
        · exact .inl (by omega)
      have e : (bif decide (f < 0) then some vF else bif decide (f > 63) then some vF else none) = some vF := by
        rcases hd with h | h
        · rw [decide_eq_true h]; rfl
        · rw [decide_eq_true h]; cases decide (f < 0) <;> rfl
      rw [e]
      rcases k02 with rfl | rfl <;> rfl
    · rw [beqI, beqI, decide_eq_false (fun e => k02 (.inl e)), decide_eq_false (fun e => k02 (.inr e))]
      have hg : gd k f m = ((decide (k = 1) || decide (k = 3)) && (decide (f = 0) && decide ((m : Int) ≤ 1))) := gd_eq (by
        simp only [Bool.and_eq_true, Bool.or_eq_true, decide_eq_true_eq]
        constructor
        · rintro ⟨h1, h2, h3⟩; exact .inr ⟨h1, h2, by omega⟩
        · rintro (⟨h, _⟩ | ⟨h1, h2, h3⟩)
          · exact absurd h k02
          · exact ⟨h1, h2, by omega⟩)
      rw [hg, beqI, beqI, beqI]
      cases decide (k = 1) <;> cases decide (k = 3) <;> cases decide (f = 0) <;> cases decide ((m : Int) ≤ 1) <;> rfl
theorem good_con (k f : Int) (m : Nat) : ConQ Try.prog lq 14 [sv k f m] (.bool (gd k f m)) := conF noQ_ok [] Try.func14 rfl (by kernel_rfl) (good_run k f m)
set_option maxRecDepth 100000 in
theorem awake_con : ConQ Try.prog lq 8 [] (.bool true) := conF noQ_ok [9, 10, 11, 12, 13, 14, 15, 16, 17, 18, 19, 20, 21, 22, 23, 24, 25, 26, 27] Try.func8 rfl (by kernel_rfl) (by kernel_rfl)
noncomputable def goodE (ar : List Value) : Option (Bool × Value) := match ar with
  | [.agg ⟨[.int .i64 k, .int .i64 f, .int .u64 m]⟩] => some (tst (0 ≤ m ∧ m < 2 ^ 64), .bool (gd k f m))
  | _ => none
noncomputable def awE (ar : List Value) : Option (Bool × Value) := match ar with
  | [] => some (true, .bool true)
  | _ => none
noncomputable def G : TabF := andG 14 goodE (andG 17 goodE (andG 8 awE noG))
theorem goodE_some {ar : List Value} {v : Value} (h : goodE ar = some (true, v)) : ∃ (k f : Int) (m : Nat), m < 2 ^ 64 ∧ ar = [sv k f m] ∧ v = .bool (gd k f m) := by
  unfold goodE at h
  split at h
  · rename_i k f m
    simp only [Option.some.injEq, Prod.mk.injEq] at h
    obtain ⟨ht, rfl⟩ := h
    obtain ⟨h1, h2⟩ := of_tst ht
    obtain ⟨n, rfl⟩ : ∃ n : Nat, m = n := ⟨m.toNat, by omega⟩
    exact ⟨k, f, n, by omega, rfl, rfl⟩
  · cases h
theorem G_ok : TabQ Try.prog lq G := by
  refine andQ_ok Try.func14 rfl (by kernel_rfl) (fun ar v h => ?_) (andQ_ok Try.func17 rfl (by kernel_rfl) (fun ar v h => ?_) (andQ_ok Try.func8 rfl (by kernel_rfl) (fun ar v h => ?_) noQ_ok))
  · obtain ⟨k, f, m, hm, rfl, rfl⟩ := goodE_some h
    exact good_con k f m
  · obtain ⟨k, f, m, hm, rfl, rfl⟩ := goodE_some h
    exact ref_con k f m hm
  · unfold awE at h
    split at h
    · cases h; exact awake_con
    · cases h
/-- A function's own code, gone into once; its calls by another table; no loops. -/
noncomputable def lvA (P : Program) (gl : Nat → Option Nat) (call : CallA) : CallA := fun g ar h => match P.funcs[g]? with
  | none => none
  | some fn => match fn.body with
    | none => none
    | some c => bif fn.name == "runtime.NumGoroutine" then none else match codeB P gl (regF P gl) call noLO c ⟨argsT 0 ar .nil, ar.length + (fn.ntmps - ar.length), h, []⟩ with
      | some (x, σ) => finK P fn x σ
      | none => none
/-- What is answered, all that it asks handed on. -/
noncomputable def resKK {R : Type} (P : Program) (T : Tr Value) (h : AH) : List ResultVar → (List Value → Option R) → Option R
  | [], k => k []
  | .tmp t :: r, k => match T.get t with
    | some v => resKK P T h r fun vs => k (v :: vs)
    | none => none
  | .cell a t :: r, k => match T.get a with
    | some (.pointer (some ⟨b, off, none⟩)) => loadK P h t b off fun v => resKK P T h r fun vs => k (v :: vs)
    | _ => none
theorem resKK_eq {R : Type} (P : Program) (T : Tr Value) (h : AH) : ∀ (l : List ResultVar) (k : List Value → Option R), resKK P T h l k = match resA P T h l with
    | some vs => k vs
    | none => none := by
  intro l
  induction l with
  | nil => intro k; rfl
  | cons x r ih =>
    intro k
    cases x with
    | tmp t =>
      simp only [resKK, resA]
      cases T.get t with
      | none => rfl
      | some v =>
        dsimp only
        rw [ih]
        cases resA P T h r <;> rfl
    | cell a t =>
      simp only [resKK, resA]
      cases T.get a with
      | none => rfl
      | some v =>
        cases v with
        | pointer p =>
          cases p with
          | none => rfl
          | some p =>
            obtain ⟨b, off, sp⟩ := p
            cases sp with
            | some _ => rfl
            | none =>
              dsimp only
              rw [loadK_eq]
              cases loadA P h t b off with
              | none => rfl
              | some v =>
                dsimp only
                rw [ih]
                cases resA P T h r <;> rfl
        | _ => rfl
noncomputable def finKK {R : Type} (P : Program) (fn : Func) (x : XA) (σ : St) (k : Value → AH → Option R) : Option R :=
  match x with
  | .exit _ => none
  | _ => match σ.ds with
    | [] => resKK P σ.T σ.h fn.results.toList fun vs => k (tupA vs) σ.h
    | _ :: _ => none
theorem finKK_eq {R : Type} (P : Program) (fn : Func) (x : XA) (σ : St) (k : Value → AH → Option R) : finKK P fn x σ k = match finK P fn x σ with
    | some (v, h') => k v h'
    | none => none := by
  unfold finKK finK
  cases x with
  | exit id => rfl
  | normal =>
    dsimp only
    cases σ.ds with
    | nil => dsimp only; rw [resKK_eq]; cases resA P σ.T σ.h fn.results.toList <;> rfl
    | cons a b => rfl
  | ret =>
    dsimp only
    cases σ.ds with
    | nil => dsimp only; rw [resKK_eq]; cases resA P σ.T σ.h fn.results.toList <;> rfl
    | cons a b => rfl
noncomputable def lvK {R : Type} (P : Program) (gl : Nat → Option Nat) (call : CallA) (callK : CK R) : CK R := fun g ar h k => match P.funcs[g]? with
  | none => none
  | some fn => match fn.body with
    | none => none
    | some c => bif fn.name == "runtime.NumGoroutine" then none else codeG P gl call callK noLK c ⟨argsT 0 ar .nil, ar.length + (fn.ntmps - ar.length), h, []⟩ fun x σ => finKK P fn x σ k
theorem lvK_ok {R : Type} {P : Program} {gl : Nat → Option Nat} {call : CallA} {callK : CK R} (hc : CKok call callK) : CKok (lvA P gl call) (lvK P gl call callK) := by
  intro g ar h k
  unfold lvA lvK
  cases P.funcs[g]? with
  | none => rfl
  | some fn =>
    dsimp only
    cases fn.body with
    | none => rfl
    | some c =>
      dsimp only
      cases fn.name == "runtime.NumGoroutine" with
      | true => rfl
      | false =>
        simp only [cond_false]
        rw [codeG_eq hc noLK_ok]
        cases codeB P gl (regF P gl) call noLO c ⟨argsT 0 ar .nil, ar.length + (fn.ntmps - ar.length), h, []⟩ with
        | none => rfl
        | some y => obtain ⟨x, σ⟩ := y; exact finKK_eq P fn x σ k
theorem lvA_ok {P : Program} {gl : Nat → Option Nat} (hm : P.follows .mixedOrders = true) {call : CallA} (hcall : CallOK P gl call) : CallOK P gl (lvA P gl call) := by
  intro g ar h v h' hc
  unfold lvA at hc
  split at hc
  · cases hc
  · rename_i fn hfn
    split at hc
    · cases hc
    · rename_i c hb
      cases hname : (fn.name == "runtime.NumGoroutine") with
      | true => rw [hname] at hc; cases hc
      | false =>
        rw [hname] at hc
        simp only [cond_false] at hc
        refine oneB_ok (regF_ok hm) hcall (toK_ok call) (toLK_ok noLO) noLO_ok hfn hb hname ?_
        rw [codeBK_eq (toK_ok call) (toLK_ok noLO)]
        exact hc
/-- Calls: the table; own gone into; the table's methods gone into, all that they ask handed on. -/
noncomputable abbrev cA5 : CallA := mixA [11, 12, 13, 19] (lvA Try.prog (glV lq) (qA G [18])) (qA G [18])
noncomputable abbrev cK5 {R : Type} : CK R := mixK [11, 12, 13, 19] (lvK Try.prog (glV lq) (qA G [18]) (qK G [18])) (qK G [18])
theorem cA5_ok : CallOK Try.prog (glV lq) cA5 := mixA_ok (lvA_ok hmix (qA_ok G_ok [18])) (qA_ok G_ok [18])
theorem cK5_ok {R : Type} : CKok (R := R) cA5 cK5 := mixK_ok (lvK_ok (qK_ok G [18])) (qK_ok G [18])
/-- A loop each of whose rounds is run over what is known then. -/
theorem loop_rule2 {P : Program} {gl : Nat → Option Nat} (hm : P.follows .mixedOrders = true) {hE : AH} {c : Code} {X : Type} (inv : X → St) (m : X → Nat) (out : X → XA × St)
    (step : ∀ x, ∃ call LO, CallOK P gl call ∧ LoopsOK P gl hE LO (loopsOf c) ∧ ∃ y σ1, codeB P gl (regF P gl) call LO c (inv x) = some (y, σ1) ∧
      ((y = .normal ∧ ∃ x', m x' < m x ∧ out x' = out x ∧ Covers gl hE (inv x') σ1) ∨ (y ≠ .normal ∧ (out x).1 = y ∧ Covers gl hE (out x).2 σ1))) :
    ∀ x, LoopTri P gl hE c (inv x) (out x).1 (out x).2 := by
  intro x μE wE μ a w hE0 hs hf
  refine wp_loop_rounds (m x + 1) ?_
  have key : ∀ (k : Nat) (x : X) (μ : Mu) (a : Act) (w : World), m x < k → SRel gl μ (inv x) a w → Fr μE hE wE μ (inv x).h w → Code.rounds P c (PostE gl μE hE wE (out x).1 (out x).2) k a w := by
    intro k
    induction k with
    | zero => intro x μ a w hk; omega
    | succ k ih =>
      intro x μ a w hk hs hf
      rw [rounds_succ]
      obtain ⟨call, LO, hcall, hl, y, σ1, hc, hy⟩ := step x
      refine wp_mono (codeB_ok (regF_ok hm) hcall c hl _ _ _ hc μE wE μ a w hE0 hs hf) ?_
      rintro e a1 w1 ⟨rfl, μ1, hs1, hf1⟩
      rcases hy with ⟨rfl, x', h1, h2, h3⟩ | ⟨h1, h2, h3⟩
      · obtain ⟨μ2, g1, g2⟩ := h3 μE μ1 wE w1 a1 hE0 hs1 hf1
        rw [← h2]
        exact ih x' _ a1 w1 (by omega) g1 g2
      · obtain ⟨μ2, g1, g2⟩ := h3 μE μ1 wE w1 a1 hE0 hs1 hf1
        have fin : PostE gl μE hE wE (out x).1 (out x).2 y.to a1 w1 := ⟨by rw [h2], _, g1, g2⟩
        cases y with
        | normal => exact absurd rfl h1
        | exit id => exact fin
        | ret => exact fin
  exact key _ x μ a w (Nat.lt_succ_self _) hs hf
/-- Shapes that are all good, or all bad. -/
noncomputable def goodEb (b : Bool) (ar : List Value) : Option (Bool × Value) := match ar with
  | [.agg ⟨[.int .i64 k, .int .i64 f, .int .u64 m]⟩] => some (tst (0 ≤ m ∧ m < 2 ^ 64 ∧ gd k f m = b), .bool b)
  | _ => none
noncomputable def Gb (b : Bool) : TabF := andG 14 (goodEb b) (andG 17 (goodEb b) noG)
theorem goodEb_some {b : Bool} {ar : List Value} {v : Value} (h : goodEb b ar = some (true, v)) : ∃ (k f : Int) (m : Nat), m < 2 ^ 64 ∧ ar = [sv k f m] ∧ v = .bool (gd k f m) := by
  unfold goodEb at h
  split at h
  · rename_i k f m
    simp only [Option.some.injEq, Prod.mk.injEq] at h
    obtain ⟨ht, rfl⟩ := h
    obtain ⟨h1, h2, h3⟩ := of_tst ht
    obtain ⟨n, rfl⟩ : ∃ n : Nat, m = n := ⟨m.toNat, by omega⟩
    exact ⟨k, f, n, by omega, rfl, by rw [h3]⟩
  · cases h
theorem Gb_ok (b : Bool) : TabQ Try.prog lq (Gb b) := by
  refine andQ_ok Try.func14 rfl (by kernel_rfl) (fun ar v h => ?_) (andQ_ok Try.func17 rfl (by kernel_rfl) (fun ar v h => ?_) noQ_ok)
  · obtain ⟨k, f, m, hm, rfl, rfl⟩ := goodEb_some h
    exact good_con k f m
  · obtain ⟨k, f, m, hm, rfl, rfl⟩ := goodEb_some h
    exact ref_con k f m hm
noncomputable abbrev cAb (b : Bool) : CallA := mixA [11, 12, 13, 19] (lvA Try.prog (glV lq) (qA (Gb b) [18])) (qA (Gb b) [18])
noncomputable abbrev cKb {R : Type} (b : Bool) : CK R := mixK [11, 12, 13, 19] (lvK Try.prog (glV lq) (qA (Gb b) [18]) (qK (Gb b) [18])) (qK (Gb b) [18])
theorem cAb_ok (b : Bool) : CallOK Try.prog (glV lq) (cAb b) := mixA_ok (lvA_ok hmix (qA_ok (Gb_ok b) [18])) (qA_ok (Gb_ok b) [18])
theorem cKb_ok {R : Type} (b : Bool) : CKok (R := R) (cAb b) (cKb b) := mixK_ok (lvK_ok (qK_ok (Gb b) [18])) (qK_ok (Gb b) [18])
noncomputable abbrev ROb (b : Bool) (LK : LoopK (XA × List Value × List Blk × Nat)) := RQ Try.prog lq (cAb b) (cKb b) LK Try.f5
/-- The states: nothing known; n shapes known. -/
abbrev b0 : List Blk := [.row false 1 [.slice none 0 0, .map (some 1)], .mp false []]
abbrev b1 (n : Nat) (es : List (Value × Value)) (cs ds : List Value) : List Blk := [.row false 1 [.slice (some ⟨2, 0, none⟩) n 1, .map (some 1)], .mp false es, .row false 3 cs, .row false 3 ds]
abbrev b2 (m n : Nat) (es : List (Value × Value)) (cs ds : List Value) : List Blk := [.row false 1 [.slice (some ⟨2, 0, none⟩) m 1, .map (some 1)], .mp false es, .row false 3 cs, .row false 3 ds]
abbrev b3 (es : List (Value × Value)) (cs : List Value) : List Blk := [.row false 1 [.slice (some ⟨2, 0, none⟩) 1 1, .map (some 1)], .mp false es, .row false 3 cs]
abbrev kn (n : Nat) : Value := .slice (some ⟨3, 0, none⟩) n 1
noncomputable abbrev RO (LK : LoopK (XA × List Value × List Blk × Nat)) := RQ Try.prog lq cA5 cK5 LK Try.f5
/-- The inner loop. -/
noncomputable abbrev inn : Code := (loopsOf (loopN Try.f5 0)).getD 0 .skip
noncomputable abbrev RIn (ts ids : List Nat) (vs : List Value) (h : AH) : Option (XA × List Value × List Blk × Nat) := codeG Try.prog (glV lq) cA5 cK5 noLK inn (stT ts vs 144 h) (finH ts ids)

-- SHAPES, PLAINLY
abbrev Sh := Int × Int × Nat
abbrev cl (s : Sh) : List Value := [iv s.1, iv s.2.1, uv (s.2.2 : Int)]
def flt (K : List Sh) : List Value := K.flatMap cl
abbrev tsI : List Nat := [0, 3, 4, 5, 6, 9, 10]
/-- What is known of the inner loop. -/
noncomputable abbrev fI (ids : List Nat) (pre : List Value) (bs : List Blk) (post : List Value) (bs' : List Blk) : List Value → AH → Nat → Option (Bool × XA × St) := fun vs h s => match picksH ids h with
  | some xs => some (tst (vs = pre ∧ xs = bs ∧ s = 144), .exit 2, stT tsI post 144 (mkHV lq bs'))
  | none => none
noncomputable abbrev lkI {R : Type} (ids : List Nat) (pre : List Value) (bs : List Blk) (post : List Value) (bs' : List Blk) : LoopK R := lkQ 17 tsI (fI ids pre bs post bs') noLK
noncomputable abbrev loI (ids : List Nat) (pre : List Value) (bs : List Blk) (post : List Value) (bs' : List Blk) : LoopA := loQ 17 tsI (fI ids pre bs post bs') noLO
/-- What is known of the law's loop. -/
noncomputable abbrev fO (l : Value) (σ' : St) : List Value → AH → Nat → Option (Bool × XA × St) := fun vs h s => match picksH [1, 0] h with
  | some xs => some (tst (vs = [l, .pointer (some ⟨1, 0, none⟩), .slice none 0 0, iv 0] ∧ xs = [.row false 1 [.slice none 0 0, .map (some 0)], .mp false []] ∧ s = 144), .exit 0, σ')
  | none => none
noncomputable abbrev lkO {R : Type} (l : Value) (σ' : St) : LoopK R := lkQ 8 [0, 3, 4, 5] (fO l σ') noLK
noncomputable abbrev loO (l : Value) (σ' : St) : LoopA := loQ 8 [0, 3, 4, 5] (fO l σ') noLO
noncomputable abbrev R5 (LK : LoopK Value) (l : Value) : Option Value := runQ Try.prog lq cA5 cK5 LK 1 Try.f5 [l]
end Go.Proofs.Ytjmmdpfmnnemoaa.AI
