/- Functions of whole numbers, run with numbers that are not known. -/
import Derived.Test.YtjhlfolgadaliaaDoorSXh
import Derived.Laws.BitsLemmas
import Derived.KernelRfl
namespace Go.Proofs.YtjhlfolgadaliaaDoor.AI
open Go Go.RowKit 
set_option linter.unusedVariables false
set_option linter.unusedSimpArgs false
def u1 (f : Int → Option Value) (ar : List Value) : Option Value := match ar with | [.int .u64 a] => f a | _ => none
def F5 : FuncId → List Value → Option Value := andF 41 (u1 fun w => some (.int .i64 (onesI w))) F4
def F6 : FuncId → List Value → Option Value := andF 23 (u1 fun w => some (.int .i64 (onesI w))) F5
noncomputable abbrev RB4 (P : Program) (F : FuncId → List Value → Option Value) (fn : Func) (k : Nat) (ts : List Nat) (vs : List Value) (h : AH) : Option (XA × List Value × AH × Nat) := bodyRun P gl0 (regF P gl0) (sumA F) (toLK noLO) (loopN fn k) (stT ts vs fn.ntmps h) ts
noncomputable abbrev lkC {R : Type} (r : Nat) (ts : List Nat) (pre post : List Value) (n : Nat) (x : XA) : LoopK R := lkQ r ts (fun vs h s => some (tst (vs = pre ∧ h = h0 ∧ s = n), x, stT ts post n h0)) noLK
noncomputable abbrev loC (r : Nat) (ts : List Nat) (pre post : List Value) (n : Nat) (x : XA) : LoopA := loQ r ts (fun vs h s => some (tst (vs = pre ∧ h = h0 ∧ s = n), x, stT ts post n h0)) noLO
noncomputable abbrev RL4 (LK : LoopK Value) (fn : Func) (ar : List Value) : Option Value := runL Tryd.prog gl0 (regF Tryd.prog gl0) (sumA F4) LK fn ar h0
theorem loC_ok {P : Program} {gl : Nat → Option Nat} {hE : AH} {c : Code} {l : List Code} (hl : l = [c]) {r : Nat} {ts : List Nat} {pre post : List Value} {n : Nat} {x : XA} (h : LoopTri P gl hE c (stT ts pre n h0) x (stT ts post n h0)) : LoopsOK P gl hE (loC r ts pre post n x) l := by
  refine loQ_ok (fun c' hc _ σ vs x' σ' hd hp h' => ?_) noLO_ok
  rw [hl, List.mem_singleton] at hc
  subst hc
  simp only [Option.some.injEq, Prod.mk.injEq] at h'
  obtain ⟨ht, rfl, rfl⟩ := h'
  obtain ⟨rfl, hh, hs⟩ := of_tst ht
  exact h.enter (covers_T hs (picks_mkT hp) hh.symm hd.symm)
theorem regm : RegOK Tryd.prog gl0 (regF Tryd.prog gl0) := regF_ok hmix
theorem BitM_nat (w i : Nat) (hw : w < 2 ^ 64) : BitM w i = (decide (i < 64) && w.testBit i) := by
  unfold BitM
  rw [decide_eq_true (show (i : Int) ≥ 0 by omega), Bool.true_and]
  by_cases h : i < 64
  · rw [decide_eq_true h, decide_eq_true (show (i : Int) < 64 by omega), uw_nat i (by omega), shr_nat w i hw, show (1 : Int) = ((1 : Nat) : Int) from rfl, and_nat _ _ (Nat.lt_of_le_of_lt (Nat.div_le_self _ _) hw) (by decide), Nat.testBit_eq_decide_div_mod_eq, Bool.true_and, Bool.true_and,
      Nat.and_one_is_mod]
    by_cases h1 : w / 2 ^ i % 2 = 1
    · rw [h1]; rfl
    · rw [decide_eq_false h1, beq_eq_false_iff_ne]; omega
  · rw [decide_eq_false h, decide_eq_false (show ¬ (i : Int) < 64 by omega)]; rfl
theorem i64s (j : Nat) (h : j < 2 ^ 62) : IntKind.i64.wrap ((j : Int) + 1) = ((j + 1 : Nat) : Int) := by rw [i64w]; omega
theorem tB24 (w n j : Int) : RB4 Tryd.prog F4 Tryd.f24 0 [0, 3, 4] [.int .u64 w, .int .i64 n, .int .i64 j] h0 = bif decide (j < 64) then bif BitM w j then some (XA.normal, [Value.int IntKind.u64 w, Value.int IntKind.i64 (IntKind.wrap IntKind.i64 (n + 1)), Value.int IntKind.i64 (IntKind.wrap IntKind.i64 (j + 1))], h0, 15) else some (XA.normal, [Value.int IntKind.u64 w, Value.int IntKind.i64 n, Value.int IntKind.i64 (IntKind.wrap IntKind.i64 (j + 1))], h0, 15) else some (XA.exit 0, [Value.int IntKind.u64 w, Value.int IntKind.i64 n, Value.int IntKind.i64 j], h0, 15) := by kernel_rfl
theorem tr24 (w c : Int) (pre : List Value) : RL4 (lkC 3 [0, 3, 4] pre [.int .u64 w, .int .i64 c, .int .i64 64] 15 (.exit 0)) Tryd.f24 [.int .u64 w] = bif tst ([Value.int IntKind.u64 w, Value.int IntKind.i64 0, Value.int IntKind.i64 0] = pre ∧ h0 = h0 ∧ 15 = 15) then some (Value.int IntKind.i64 c) else none := by kernel_rfl
theorem lp24 (w : Nat) (hw : w < 2 ^ 64) : LoopTri Tryd.prog gl0 h0 (loopN Tryd.f24 0) (stT [0, 3, 4] [.int .u64 (w : Int), .int .i64 0, .int .i64 0] 15 h0) (.exit 0) (stT [0, 3, 4] [.int .u64 (w : Int), .int .i64 ((cnt w 64 : Nat) : Int), .int .i64 64] 15 h0) := by
  have := loop_plain (n := 15) (h := h0) regm (tab_ok F4_ok) (LK := toLK noLO) (toLK_ok noLO) (c := loopN Tryd.f24 0) noLO_ok [0, 3, 4] (X := {j : Nat // j ≤ 64}) (fun j => [.int .u64 (w : Int), .int .i64 ((cnt w j.1 : Nat) : Int), .int .i64 ((j.1 : Nat) : Int)]) (fun j => 64 - j.1) (fun j => (.exit 0, ⟨64, Nat.le_refl _⟩)) (hE := h0) ?_ ⟨0, by decide⟩
  · exact this
  · rintro ⟨j, hj⟩
    have hc := cnt_le w j
    have hc2 : cnt w (j + 1) = cnt w j + (w.testBit j).toNat := testBit_cnt w j
    by_cases h : j < 64
    · refine ⟨.normal, ⟨j + 1, h⟩, (tB24 _ _ _).trans ?_, .inl ⟨rfl, by dsimp only; omega, rfl⟩⟩
      dsimp only
      rw [decide_eq_true (show (j : Int) < 64 by omega), BitM_nat w j hw, decide_eq_true h, i64s j (by omega), i64s (cnt w j) (by omega), hc2]
      cases w.testBit j <;> rfl
    · obtain rfl : j = 64 := by omega
      exact ⟨.exit 0, ⟨64, Nat.le_refl _⟩, tB24 _ _ _, .inr ⟨by simp, rfl⟩⟩
theorem ones_ok (n : Nat) (hn : n < 2 ^ 64) (w : World) : Calls Tryd.prog 24 ⟨[.int .u64 (n : Int)]⟩ w fun e w' => e = .returned (.int .i64 ((cnt n 64 : Nat) : Int)) ∧ Below w.heap.size w w' := by
  refine plain_callsL regm (tab_ok F4_ok) (lkQ_ok noLK_ok) Tryd.func24 rfl (by kernel_rfl) (loC_ok (r := 3) (by kernel_rfl) (lp24 n hn)) ?_ rfl rfl w
  refine (tr24 _ _ _).trans ?_
  rw [tst_of ⟨rfl, rfl, rfl⟩]; rfl
theorem tB25 (w f z j : Int) : RB4 Tryd.prog F4 Tryd.f25 0 [0, 1, 4, 5] [.int .u64 w, .int .i64 f, .int .i64 z, .int .i64 j] h0 = bif decide (j < 64) then bif decide (j ≥ f) then bif BitM w j then some (XA.ret, [Value.int IntKind.u64 w, Value.int IntKind.i64 f, Value.int IntKind.i64 j, Value.int IntKind.i64 j], h0, 19) else some (XA.normal, [Value.int IntKind.u64 w, Value.int IntKind.i64 f, Value.int IntKind.i64 z, Value.int IntKind.i64 (IntKind.wrap IntKind.i64 (j + 1))], h0, 19) else some (XA.normal, [Value.int IntKind.u64 w, Value.int IntKind.i64 f, Value.int IntKind.i64 z, Value.int IntKind.i64 (IntKind.wrap IntKind.i64 (j + 1))], h0, 19) else some (XA.exit 0, [Value.int IntKind.u64 w, Value.int IntKind.i64 f, Value.int IntKind.i64 z, Value.int IntKind.i64 j], h0, 19) := by kernel_rfl
theorem tr25a (w f z c : Int) (pre : List Value) : RL4 (lkC 2 [0, 1, 4, 5] pre [.int .u64 w, .int .i64 f, .int .i64 z, .int .i64 c] 19 (.exit 0)) Tryd.f25 [.int .u64 w, .int .i64 f] = bif tst ([Value.int IntKind.u64 w, Value.int IntKind.i64 f, Value.int IntKind.i64 0, Value.int IntKind.i64 0] = pre ∧ h0 = h0 ∧ 19 = 19) then some (Value.int IntKind.i64 64) else none := by kernel_rfl
theorem tr25b (w f z c : Int) (pre : List Value) : RL4 (lkC 2 [0, 1, 4, 5] pre [.int .u64 w, .int .i64 f, .int .i64 z, .int .i64 c] 19 .ret) Tryd.f25 [.int .u64 w, .int .i64 f] = bif tst ([Value.int IntKind.u64 w, Value.int IntKind.i64 f, Value.int IntKind.i64 0, Value.int IntKind.i64 0] = pre ∧ h0 = h0 ∧ 19 = 19) then some (Value.int IntKind.i64 z) else none := by kernel_rfl
def nextZ (w : Nat) (f : Int) : Nat := nextN w f.toNat
theorem nextZ_is (w : Nat) (f : Int) (hw : w < 2 ^ 64) : IsNext w f.toNat (nextZ w f) := next_is w f.toNat hw
theorem lp25 (w : Nat) (hw : w < 2 ^ 64) (f : Int) (x : XA) (z' : Int) (hx : (nextZ w f = 64 ∧ x = .exit 0 ∧ z' = 0) ∨ (nextZ w f < 64 ∧ x = .ret ∧ z' = nextZ w f)) :
    LoopTri Tryd.prog gl0 h0 (loopN Tryd.f25 0) (stT [0, 1, 4, 5] [.int .u64 (w : Int), .int .i64 f, .int .i64 0, .int .i64 0] 19 h0) x (stT [0, 1, 4, 5] [.int .u64 (w : Int), .int .i64 f, .int .i64 z', .int .i64 ((nextZ w f : Nat) : Int)] 19 h0) := by
  obtain ⟨h1, h2, h3⟩ := nextZ_is w f hw
  generalize nextZ w f = r at *
  have := loop_plain (n := 19) (h := h0) regm (tab_ok F4_ok) (LK := toLK noLO) (toLK_ok noLO) (c := loopN Tryd.f25 0) noLO_ok [0, 1, 4, 5] (X := {j : Int × Nat // j.2 ≤ r ∧ (j.1 = 0 ∨ j = (z', r))}) (fun j => [.int .u64 (w : Int), .int .i64 f, .int .i64 j.1.1, .int .i64 ((j.1.2 : Nat) : Int)]) (fun j => r - j.1.2) (fun j => (x, ⟨(z', r), Nat.le_refl _, .inr rfl⟩)) (hE := h0) ?_ ⟨(0, 0), Nat.zero_le _, .inl rfl⟩
  · exact this
  · rintro ⟨⟨z, j⟩, hj, hz⟩
    dsimp only at hj hz
    by_cases h : j < r
    · have hz0 : z = 0 := by
        rcases hz with hz | hz
        · exact hz
        · have := congrArg Prod.snd hz
          dsimp only at this
          omega
      subst hz0
      refine ⟨.normal, ⟨(0, j + 1), h, .inl rfl⟩, (tB25 _ _ _ _).trans ?_, .inl ⟨rfl, by dsimp only; omega, rfl⟩⟩
      dsimp only
      rw [decide_eq_true (show (j : Int) < 64 by omega), i64s j (by omega), BitM_nat w j hw]
      by_cases hf : (j : Int) ≥ f
      · rw [h2 j (by omega) h, Bool.and_false]
        cases decide ((j : Int) ≥ f) <;> rfl
      · rw [decide_eq_false hf]; rfl
    · obtain rfl : j = r := by omega
      refine ⟨x, ⟨(z', j), Nat.le_refl _, .inr rfl⟩, (tB25 _ _ _ _).trans ?_, .inr ⟨?_, rfl⟩⟩
      · dsimp only
        rcases hx with ⟨rfl, rfl, rfl⟩ | ⟨hl, rfl, rfl⟩
        · have hz0 : z = 0 := by
            rcases hz with hz | hz
            · exact hz
            · exact congrArg Prod.fst hz
          subst hz0; rfl
        · obtain ⟨g1, g2⟩ := h3 hl
          rw [decide_eq_true (show (j : Int) < 64 by omega), decide_eq_true (show (j : Int) ≥ f by omega), BitM_nat w j hw, g2, decide_eq_true hl]
          rfl
      · rcases hx with ⟨_, rfl, _⟩ | ⟨_, rfl, _⟩ <;> simp
theorem nextR_ok (n : Nat) (hn : n < 2 ^ 64) (f : Int) (w : World) : Calls Tryd.prog 25 ⟨[.int .u64 (n : Int), .int .i64 f]⟩ w fun e w' => e = .returned (.int .i64 ((nextZ n f : Nat) : Int)) ∧ Below w.heap.size w w' := by
  have h1 := (nextZ_is n f hn).1
  by_cases h : nextZ n f = 64
  · refine plain_callsL regm (tab_ok F4_ok) (lkQ_ok noLK_ok) Tryd.func25 rfl (by kernel_rfl) (loC_ok (r := 2) (by kernel_rfl) (lp25 n hn f (.exit 0) 0 (.inl ⟨h, rfl, rfl⟩))) ?_ rfl rfl w
    refine (tr25a _ _ _ _ _).trans ?_
    rw [tst_of ⟨rfl, rfl, rfl⟩, h]; rfl
  · refine plain_callsL regm (tab_ok F4_ok) (lkQ_ok noLK_ok) Tryd.func25 rfl (by kernel_rfl) (loC_ok (r := 2) (by kernel_rfl) (lp25 n hn f .ret _ (.inr ⟨by omega, rfl, rfl⟩))) ?_ rfl rfl w
    refine (tr25b _ _ _ _ _).trans ?_
    rw [tst_of ⟨rfl, rfl, rfl⟩]; rfl
theorem tB21 (w a n v j : Int) : RB4 Tryd.prog F4 Tryd.f21 0 [0, 1, 2, 7, 8] [.int .u64 w, .int .i64 a, .int .i64 n, .int .u64 v, .int .i64 j] h0 = bif decide (j < n) then bif BitM w (IntKind.wrap IntKind.i64 (a + j)) then bif decide (IntKind.wrap IntKind.u64 j < 0) then none else some (XA.normal, [Value.int IntKind.u64 w, Value.int IntKind.i64 a, Value.int IntKind.i64 n, Value.int IntKind.u64 (IntKind.wrap IntKind.u64 (↑(BitVec.toNat (BitVec.ofInt 64 v ||| BitVec.ofInt 64 (IntKind.wrap IntKind.u64 (1 * 2 ^ Min.min (Int.toNat (IntKind.wrap IntKind.u64 j)) 64)))) : Int)), Value.int IntKind.i64 (IntKind.wrap IntKind.i64 (j + 1))], h0, 41) else some (XA.normal, [Value.int IntKind.u64 w, Value.int IntKind.i64 a, Value.int IntKind.i64 n, Value.int IntKind.u64 v, Value.int IntKind.i64 (IntKind.wrap IntKind.i64 (j + 1))], h0, 41) else some (XA.exit 0, [Value.int IntKind.u64 w, Value.int IntKind.i64 a, Value.int IntKind.i64 n, Value.int IntKind.u64 v, Value.int IntKind.i64 j], h0, 41) := by kernel_rfl
theorem tr21 (w a n r j : Int) (pre : List Value) : RL4 (lkC 5 [0, 1, 2, 7, 8] pre [.int .u64 w, .int .i64 a, .int .i64 n, .int .u64 r, .int .i64 j] 41 (.exit 0)) Tryd.f21 [.int .u64 w, .int .i64 a, .int .i64 n] = bif decide (a < 0) then some (Value.int IntKind.u64 0) else bif decide (n < 0) then some (Value.int IntKind.u64 0) else bif decide (a > 64) then some (Value.int IntKind.u64 0) else bif decide (n > IntKind.wrap IntKind.i64 (64 - a)) then some (Value.int IntKind.u64 0) else bif tst ([Value.int IntKind.u64 w, Value.int IntKind.i64 a, Value.int IntKind.i64 n, Value.int IntKind.u64 0, Value.int IntKind.i64 0] = pre ∧ h0 = h0 ∧ 41 = 41) then some (Value.int IntKind.u64 r) else none := by kernel_rfl
theorem tB22 (w a n v j : Int) : RB4 Tryd.prog F4 Tryd.f22 0 [0, 1, 2, 3, 9] [.int .u64 w, .int .i64 a, .int .i64 n, .int .u64 v, .int .i64 j] h0 = bif decide (j < n) then bif decide (IntKind.wrap IntKind.u64 (IntKind.wrap IntKind.i64 (a + j)) < 0) then none else bif BitM v j then bif decide (IntKind.wrap IntKind.u64 (IntKind.wrap IntKind.i64 (a + j)) < 0) then none else some (XA.normal, [Value.int IntKind.u64 (IntKind.wrap IntKind.u64 (↑(BitVec.toNat (BitVec.ofInt 64 (IntKind.wrap IntKind.u64 (↑(BitVec.toNat (BitVec.ofInt 64 w &&& ~~~BitVec.ofInt 64 (IntKind.wrap IntKind.u64 (1 * 2 ^ Min.min (Int.toNat (IntKind.wrap IntKind.u64 (IntKind.wrap IntKind.i64 (a + j)))) 64)))) : Int)) ||| BitVec.ofInt 64 (IntKind.wrap IntKind.u64 (1 * 2 ^ Min.min (Int.toNat (IntKind.wrap IntKind.u64 (IntKind.wrap IntKind.i64 (a + j)))) 64)))) : Int)), Value.int IntKind.i64 a, Value.int IntKind.i64 n, Value.int IntKind.u64 v, Value.int IntKind.i64 (IntKind.wrap IntKind.i64 (j + 1))], h0, 50) else some (XA.normal, [Value.int IntKind.u64 (IntKind.wrap IntKind.u64 (↑(BitVec.toNat (BitVec.ofInt 64 w &&& ~~~BitVec.ofInt 64 (IntKind.wrap IntKind.u64 (1 * 2 ^ Min.min (Int.toNat (IntKind.wrap IntKind.u64 (IntKind.wrap IntKind.i64 (a + j)))) 64)))) : Int)), Value.int IntKind.i64 a, Value.int IntKind.i64 n, Value.int IntKind.u64 v, Value.int IntKind.i64 (IntKind.wrap IntKind.i64 (j + 1))], h0, 50) else some (XA.exit 0, [Value.int IntKind.u64 w, Value.int IntKind.i64 a, Value.int IntKind.i64 n, Value.int IntKind.u64 v, Value.int IntKind.i64 j], h0, 50) := by kernel_rfl
theorem tr22 (w a n v r j : Int) (pre : List Value) : RL4 (lkC 4 [0, 1, 2, 3, 9] pre [.int .u64 r, .int .i64 a, .int .i64 n, .int .u64 v, .int .i64 j] 50 (.exit 0)) Tryd.f22 [.int .u64 w, .int .i64 a, .int .i64 n, .int .u64 v] = bif decide (a < 0) then some (Value.int IntKind.u64 w) else bif decide (n < 0) then some (Value.int IntKind.u64 w) else bif decide (a > 64) then some (Value.int IntKind.u64 w) else bif decide (n > IntKind.wrap IntKind.i64 (64 - a)) then some (Value.int IntKind.u64 w) else bif tst ([Value.int IntKind.u64 w, Value.int IntKind.i64 a, Value.int IntKind.i64 n, Value.int IntKind.u64 v, Value.int IntKind.i64 0] = pre ∧ h0 = h0 ∧ 50 = 50) then some (Value.int IntKind.u64 r) else none := by kernel_rfl
theorem one_shl (k : Nat) (h : k < 64) : IntKind.wrap IntKind.u64 (1 * 2 ^ Min.min (Int.toNat (k : Int)) 64) = ((2 ^ k : Nat) : Int) := by
  have := shl_nat 1 k
  rw [Nat.one_mul, Nat.mod_eq_of_lt (Nat.pow_lt_pow_right (by omega) (by omega))] at this
  exact this
theorem bit_pow (k i : Nat) : (2 ^ k).testBit i = decide (k = i) := Nat.testBit_two_pow
theorem field_step (w a j : Nat) : fieldN w a (j + 1) = if w.testBit (a + j) then fieldN w a j ||| 2 ^ j else fieldN w a j := by
  refine Nat.eq_of_testBit_eq fun i => ?_
  rw [fieldN_bit]
  by_cases hb : w.testBit (a + j) = true
  · rw [if_pos hb, Nat.testBit_or, fieldN_bit, bit_pow]
    by_cases h : j = i
    · subst h; rw [hb]; simp
    · rw [decide_eq_false h, Bool.or_false]
      congr 1
      exact decide_eq_decide.2 (by omega)
  · rw [if_neg hb, fieldN_bit]
    rw [Bool.not_eq_true] at hb
    by_cases h : i = j
    · subst h; rw [hb]; simp
    · congr 1
      exact decide_eq_decide.2 (by omega)
theorem fieldN_lt64 (w a n : Nat) (h : n ≤ 64) : fieldN w a n < 2 ^ 64 := Nat.lt_of_lt_of_le (fieldN_lt w a n) (Nat.pow_le_pow_right (by omega) h)
theorem lp21 (w a n : Nat) (hw : w < 2 ^ 64) (hn : a + n ≤ 64) : LoopTri Tryd.prog gl0 h0 (loopN Tryd.f21 0) (stT [0, 1, 2, 7, 8] [.int .u64 (w : Int), .int .i64 (a : Int), .int .i64 (n : Int), .int .u64 0, .int .i64 0] 41 h0) (.exit 0)
    (stT [0, 1, 2, 7, 8] [.int .u64 (w : Int), .int .i64 (a : Int), .int .i64 (n : Int), .int .u64 ((fieldN w a n : Nat) : Int), .int .i64 (n : Int)] 41 h0) := by
  have := loop_plain (n := 41) (h := h0) regm (tab_ok F4_ok) (LK := toLK noLO) (toLK_ok noLO) (c := loopN Tryd.f21 0) noLO_ok [0, 1, 2, 7, 8] (X := {j : Nat // j ≤ n}) (fun j => [.int .u64 (w : Int), .int .i64 (a : Int), .int .i64 (n : Int), .int .u64 ((fieldN w a j.1 : Nat) : Int), .int .i64 ((j.1 : Nat) : Int)]) (fun j => n - j.1) (fun j => (.exit 0, ⟨n, Nat.le_refl _⟩)) (hE := h0) ?_ ⟨0, Nat.zero_le _⟩
  · have e : fieldN w a 0 = 0 := by unfold fieldN; simp
    dsimp only at this
    rw [e] at this
    exact this
  · rintro ⟨j, hj⟩
    by_cases h : j < n
    · refine ⟨.normal, ⟨j + 1, h⟩, (tB21 _ _ _ _ _).trans ?_, .inl ⟨rfl, by dsimp only; omega, rfl⟩⟩
      have hw' := i64s j (by omega)
      have ha : IntKind.i64.wrap ((a : Int) + (j : Int)) = ((a + j : Nat) : Int) := by rw [i64w]; omega
      have hu : IntKind.u64.wrap (j : Int) = j := by rw [u64w]; omega
      have ho : IntKind.wrap IntKind.u64 (↑(BitVec.toNat (BitVec.ofInt 64 ((fieldN w a j : Nat) : Int) ||| BitVec.ofInt 64 ((2 ^ j : Nat) : Int))) : Int) = ((fieldN w a j ||| 2 ^ j : Nat) : Int) :=
        or_nat _ _ (fieldN_lt64 w a j (by omega)) (Nat.pow_lt_pow_right (by omega) (by omega))
      dsimp only
      rw [decide_eq_true (show (j : Int) < n by omega), ha, BitM_nat w _ hw, decide_eq_true (show a + j < 64 by omega), hu, decide_eq_false (show ¬ (j : Int) < 0 by omega), one_shl j (by omega), ho, hw', field_step]
      cases w.testBit (a + j) <;> rfl
    · obtain rfl : j = n := by omega
      refine ⟨.exit 0, ⟨j, Nat.le_refl _⟩, (tB21 _ _ _ _ _).trans ?_, .inr ⟨by simp, rfl⟩⟩
      rw [decide_eq_false (show ¬ ((j : Nat) : Int) < j by omega)]; rfl
theorem step_with (w a j v : Nat) (hw : w < 2 ^ 64) (hn : a + j < 64) : withN w a (j + 1) v = if v.testBit j then (withN w a j v &&& turn (2 ^ (a + j))) ||| 2 ^ (a + j) else withN w a j v &&& turn (2 ^ (a + j)) := by
  have hp : 2 ^ (a + j) < 2 ^ 64 := Nat.pow_lt_pow_right (by omega) (by omega)
  refine Nat.eq_of_testBit_eq fun i => ?_
  rw [withN_bit _ _ _ _ _ hw]
  have key : (withN w a j v &&& turn (2 ^ (a + j))).testBit i = (decide (i < 64) && if a ≤ i ∧ i < a + j then v.testBit (i - a) else (w.testBit i && !decide (a + j = i))) := by
    rw [Nat.testBit_and, withN_bit _ _ _ _ _ hw, turn_bit _ _ hp, bit_pow]
    by_cases h : i < 64
    · rw [decide_eq_true h, Bool.true_and, Bool.true_and, Bool.true_and]
      by_cases h1 : a ≤ i ∧ i < a + j
      · rw [if_pos h1, if_pos h1, decide_eq_false (by omega)]; simp
      · rw [if_neg h1, if_neg h1]
    · rw [decide_eq_false h]; rfl
  by_cases hb : v.testBit j = true
  · rw [if_pos hb, Nat.testBit_or, key, bit_pow]
    by_cases h : i = a + j
    · subst h
      rw [decide_eq_true hn, if_pos ⟨by omega, by omega⟩, show a + j - a = j by omega, hb]; simp
    · rw [decide_eq_false (show ¬ a + j = i by omega), Bool.or_false]
      congr 1
      by_cases h1 : a ≤ i ∧ i < a + j
      · rw [if_pos h1, if_pos ⟨h1.1, by omega⟩]
      · rw [if_neg h1, if_neg (by omega)]; simp
  · rw [if_neg hb, key]
    rw [Bool.not_eq_true] at hb
    congr 1
    by_cases h : i = a + j
    · subst h
      rw [if_pos ⟨by omega, by omega⟩, show a + j - a = j by omega, hb, if_neg (by omega)]; simp
    · by_cases h1 : a ≤ i ∧ i < a + j
      · rw [if_pos h1, if_pos ⟨h1.1, by omega⟩]
      · rw [if_neg h1, if_neg (by omega), decide_eq_false (show ¬ a + j = i by omega)]; simp
theorem withN_zero (w a v : Nat) (hw : w < 2 ^ 64) : withN w a 0 v = w := by
  refine Nat.eq_of_testBit_eq fun i => ?_
  rw [withN_bit _ _ _ _ _ hw, if_neg (by omega)]
  by_cases h : i < 64
  · rw [decide_eq_true h, Bool.true_and]
  · rw [decide_eq_false h, Bool.false_and, Nat.testBit_lt_two_pow (Nat.lt_of_lt_of_le hw (Nat.pow_le_pow_right (by omega) (by omega)))]
theorem lp22 (w a n v : Nat) (hw : w < 2 ^ 64) (hv : v < 2 ^ 64) (hn : a + n ≤ 64) : LoopTri Tryd.prog gl0 h0 (loopN Tryd.f22 0) (stT [0, 1, 2, 3, 9] [.int .u64 (w : Int), .int .i64 (a : Int), .int .i64 (n : Int), .int .u64 (v : Int), .int .i64 0] 50 h0) (.exit 0)
    (stT [0, 1, 2, 3, 9] [.int .u64 ((withN w a n v : Nat) : Int), .int .i64 (a : Int), .int .i64 (n : Int), .int .u64 (v : Int), .int .i64 (n : Int)] 50 h0) := by
  have := loop_plain (n := 50) (h := h0) regm (tab_ok F4_ok) (LK := toLK noLO) (toLK_ok noLO) (c := loopN Tryd.f22 0) noLO_ok [0, 1, 2, 3, 9] (X := {j : Nat // j ≤ n}) (fun j => [.int .u64 ((withN w a j.1 v : Nat) : Int), .int .i64 (a : Int), .int .i64 (n : Int), .int .u64 (v : Int), .int .i64 ((j.1 : Nat) : Int)]) (fun j => n - j.1) (fun j => (.exit 0, ⟨n, Nat.le_refl _⟩)) (hE := h0) ?_ ⟨0, Nat.zero_le _⟩
  · dsimp only at this
    rw [withN_zero w a v hw] at this
    exact this
  · rintro ⟨j, hj⟩
    by_cases h : j < n
    · refine ⟨.normal, ⟨j + 1, h⟩, (tB22 _ _ _ _ _).trans ?_, .inl ⟨rfl, by dsimp only; omega, rfl⟩⟩
      have hw' := i64s j (by omega)
      have hp : 2 ^ (a + j) < 2 ^ 64 := Nat.pow_lt_pow_right (by omega) (by omega)
      have hwl := withN_lt w a j v hw
      have ha : IntKind.i64.wrap ((a : Int) + (j : Int)) = ((a + j : Nat) : Int) := by rw [i64w]; omega
      have hu : IntKind.u64.wrap ((a + j : Nat) : Int) = ((a + j : Nat) : Int) := by rw [u64w]; omega
      have hA : IntKind.wrap IntKind.u64 (↑(BitVec.toNat (BitVec.ofInt 64 ((withN w a j v : Nat) : Int) &&& ~~~BitVec.ofInt 64 ((2 ^ (a + j) : Nat) : Int))) : Int) = ((withN w a j v &&& turn (2 ^ (a + j)) : Nat) : Int) :=
        andNot_nat _ _ hwl hp
      have ho : IntKind.wrap IntKind.u64 (↑(BitVec.toNat (BitVec.ofInt 64 ((withN w a j v &&& turn (2 ^ (a + j)) : Nat) : Int) ||| BitVec.ofInt 64 ((2 ^ (a + j) : Nat) : Int))) : Int) = ((withN w a j v &&& turn (2 ^ (a + j)) ||| 2 ^ (a + j) : Nat) : Int) :=
        or_nat _ _ (Nat.lt_of_le_of_lt Nat.and_le_left hwl) hp
      dsimp only
      rw [decide_eq_true (show (j : Int) < n by omega), ha, hu, decide_eq_false (show ¬ ((a + j : Nat) : Int) < 0 by omega), BitM_nat v j hv, decide_eq_true (show j < 64 by omega), one_shl (a + j) (by omega), hA, ho, hw', step_with w a j v hw (by omega)]
      cases v.testBit j <;> rfl
    · obtain rfl : j = n := by omega
      refine ⟨.exit 0, ⟨j, Nat.le_refl _⟩, (tB22 _ _ _ _ _).trans ?_, .inr ⟨by simp, rfl⟩⟩
      rw [decide_eq_false (show ¬ ((j : Nat) : Int) < j by omega)]; rfl
theorem within_iff (a n : Int) : withinM a n = (decide (0 ≤ a) && (decide (0 ≤ n) && decide (a + n ≤ 64))) := by
  unfold withinM
  rw [i64w]
  simp only [ge_iff_le]
  by_cases h0 : 0 ≤ a
  · by_cases h1 : 0 ≤ n
    · by_cases h2 : a + n ≤ 64
      · rw [decide_eq_true h0, decide_eq_true h1, decide_eq_true h2, decide_eq_true (show n ≤ 64 by omega), decide_eq_true (by omega)]; rfl
      · rw [decide_eq_true h0, decide_eq_true h1, decide_eq_false h2]
        by_cases h3 : n ≤ 64
        · rw [decide_eq_false (show ¬ a ≤ (64 - n + 9223372036854775808) % 18446744073709551616 - 9223372036854775808 by omega)]; simp
        · rw [decide_eq_false h3]; simp
    · rw [decide_eq_false h1]; simp
  · rw [decide_eq_false h0]; rfl
theorem tr21n (w a n : Int) : RL4 noLK Tryd.f21 [.int .u64 w, .int .i64 a, .int .i64 n] = bif decide (a < 0) then some (Value.int IntKind.u64 0) else bif decide (n < 0) then some (Value.int IntKind.u64 0) else bif decide (a > 64) then some (Value.int IntKind.u64 0) else bif decide (n > IntKind.wrap IntKind.i64 (64 - a)) then some (Value.int IntKind.u64 0) else none := by kernel_rfl
theorem tr22n (w a n v : Int) : RL4 noLK Tryd.f22 [.int .u64 w, .int .i64 a, .int .i64 n, .int .u64 v] = bif decide (a < 0) then some (Value.int IntKind.u64 w) else bif decide (n < 0) then some (Value.int IntKind.u64 w) else bif decide (a > 64) then some (Value.int IntKind.u64 w) else bif decide (n > IntKind.wrap IntKind.i64 (64 - a)) then some (Value.int IntKind.u64 w) else none := by kernel_rfl
theorem fieldR_ok (w : Nat) (a n : Int) (hw : w < 2 ^ 64) (W : World) : Calls Tryd.prog 21 ⟨[.int .u64 (w : Int), .int .i64 a, .int .i64 n]⟩ W fun e w' => e = .returned (.int .u64 (FieldM w a n)) ∧ Below W.heap.size W w' := by
  by_cases h : 0 ≤ a ∧ 0 ≤ n ∧ a + n ≤ 64
  · obtain ⟨a, rfl⟩ : ∃ x : Nat, a = x := ⟨a.toNat, by omega⟩
    obtain ⟨n, rfl⟩ : ∃ x : Nat, n = x := ⟨n.toNat, by omega⟩
    refine plain_callsL regm (tab_ok F4_ok) (lkQ_ok noLK_ok) Tryd.func21 rfl (by kernel_rfl) (loC_ok (r := 5) (by kernel_rfl) (lp21 w a n hw (by omega))) ?_ rfl rfl W
    refine (tr21 _ _ _ _ _ _).trans ?_
    rw [tst_of ⟨rfl, rfl, rfl⟩, decide_eq_false (by omega), decide_eq_false (by omega), decide_eq_false (by omega), decide_eq_false (by rw [i64w]; omega), Field_nat w a n hw (by omega)]; rfl
  · have hf : withinM a n = false := by
      rw [within_iff]
      by_cases h0 : 0 ≤ a
      · by_cases h1 : 0 ≤ n
        · rw [decide_eq_false (show ¬ a + n ≤ 64 by omega), Bool.and_false, Bool.and_false]
        · rw [decide_eq_false h1, Bool.false_and, Bool.and_false]
      · rw [decide_eq_false h0]; rfl
    have hv : FieldM w a n = 0 := by unfold FieldM; rw [hf]; rfl
    refine plain_callsL regm (tab_ok F4_ok) noLK_ok Tryd.func21 rfl (by kernel_rfl) noLO_ok ?_ rfl rfl W
    refine (tr21n _ _ _).trans ?_
    rw [hv]
    by_cases h0 : a < 0
    · rw [decide_eq_true h0]; rfl
    by_cases h1 : n < 0
    · rw [decide_eq_false h0, decide_eq_true h1]; rfl
    by_cases h2 : a > 64
    · rw [decide_eq_false h0, decide_eq_false h1, decide_eq_true h2]; rfl
    rw [decide_eq_false h0, decide_eq_false h1, decide_eq_false h2, decide_eq_true (show n > IntKind.i64.wrap (64 - a) by rw [i64w]; omega)]; rfl
theorem withR_ok (w v : Nat) (a n : Int) (hw : w < 2 ^ 64) (hv : v < 2 ^ 64) (W : World) : Calls Tryd.prog 22 ⟨[.int .u64 (w : Int), .int .i64 a, .int .i64 n, .int .u64 (v : Int)]⟩ W fun e w' => e = .returned (.int .u64 (WithM w a n v)) ∧ Below W.heap.size W w' := by
  by_cases h : 0 ≤ a ∧ 0 ≤ n ∧ a + n ≤ 64
  · obtain ⟨a, rfl⟩ : ∃ x : Nat, a = x := ⟨a.toNat, by omega⟩
    obtain ⟨n, rfl⟩ : ∃ x : Nat, n = x := ⟨n.toNat, by omega⟩
    refine plain_callsL regm (tab_ok F4_ok) (lkQ_ok noLK_ok) Tryd.func22 rfl (by kernel_rfl) (loC_ok (r := 4) (by kernel_rfl) (lp22 w a n v hw hv (by omega))) ?_ rfl rfl W
    refine (tr22 _ _ _ _ _ _ _).trans ?_
    rw [tst_of ⟨rfl, rfl, rfl⟩, decide_eq_false (by omega), decide_eq_false (by omega), decide_eq_false (by omega), decide_eq_false (by rw [i64w]; omega), With_nat w a n v hw hv (by omega)]; rfl
  · have hf : withinM a n = false := by
      rw [within_iff]
      by_cases h0 : 0 ≤ a
      · by_cases h1 : 0 ≤ n
        · rw [decide_eq_false (show ¬ a + n ≤ 64 by omega), Bool.and_false, Bool.and_false]
        · rw [decide_eq_false h1, Bool.false_and, Bool.and_false]
      · rw [decide_eq_false h0]; rfl
    have hv2 : WithM w a n v = w := by unfold WithM; rw [hf]; rfl
    refine plain_callsL regm (tab_ok F4_ok) noLK_ok Tryd.func22 rfl (by kernel_rfl) noLO_ok ?_ rfl rfl W
    refine (tr22n _ _ _ _).trans ?_
    rw [hv2]
    by_cases h0 : a < 0
    · rw [decide_eq_true h0]; rfl
    by_cases h1 : n < 0
    · rw [decide_eq_false h0, decide_eq_true h1]; rfl
    by_cases h2 : a > 64
    · rw [decide_eq_false h0, decide_eq_false h1, decide_eq_true h2]; rfl
    rw [decide_eq_false h0, decide_eq_false h1, decide_eq_false h2, decide_eq_true (show n > IntKind.i64.wrap (64 - a) by rw [i64w]; omega)]; rfl
end Go.Proofs.YtjhlfolgadaliaaDoor.AI
