/- Functions of instructions, run with operands that are not known. -/
import Derived.Test.YtgbfbpcimffdaaaDoorProg
import Derived.Test.YtgbfbpcimffdaaaDoorAIlk
import Derived.Test.YtgbfbpcimffdaaaDoorAIfl
import Derived.Test.YtgbfbpcimffdaaaDoorAIli
import Derived.Shelf.Lay
import Derived.Shelf.LaySoft
import Derived.Shelf.Strconv.Itoa3
import Derived.Lib.AppendIntMem
import Derived.Lib.ItoaLen
import Derived.KernelRfl
namespace Go.Proofs.YtgbfbpcimffdaaaDoor.AI
open Go Go.RowKit Go.Shelf
set_option linter.unusedVariables false
set_option linter.unusedSimpArgs false
theorem hmix : Tryd.prog.follows .mixedOrders = true := by kernel_rfl
def zs0 : List Int := [0, 1, 28, 2, 29, 14, 24, 3, 30, 22, 20, 15, 25, 17, 4, 8, 31, 27, 13, 23, 21, 19, 16, 7, 26, 12, 18, 6, 11, 5, 10, 9]
def zs1 : List Int := [0, 1, 56, 2, 57, 49, 28, 3, 61, 58, 42, 50, 38, 29, 17, 4, 62, 47, 59, 36, 45, 43, 51, 22, 53, 39, 33, 30, 24, 18, 12, 5, 63, 55, 48, 27, 60, 41, 37, 16, 46, 35, 44, 21, 52, 32, 23, 11, 54, 26, 40, 15, 34, 20, 31, 10, 25, 14, 19, 9, 13, 8, 7, 6]
def zs2 : List Int := [1, 10, 100, 1000, 10000, 100000, 1000000, 10000000, 100000000, 1000000000, 10000000000, 100000000000, 1000000000000, 10000000000000, 100000000000000, 1000000000000000, 10000000000000000, 100000000000000000, 1000000000000000000, 10000000000000000000]
def tabs : Tabs := [(1, .u8, zs0), (2, .u8, zs1), (0, .u64, zs2)]
def tp : Tabs := [(0, .u64, zs2)]
abbrev tl (n : Int) : Prop := -9223372036854775808 ≤ n ∧ n ≤ 9223372036854775807
abbrev st (l : List UInt8) : Value := .string ⟨⟨l⟩⟩
abbrev iv (n : Int) : Value := .int .i64 n
shelf_lay Go.Proofs.LaysM.n171 Nm 171 at Tryd as itLay
theorem pow10 : zs2 = Lib.pow10Tab := by rfl
noncomputable def it45 (ar : List Value) : Option (Bool × Value) := match ar with
  | [.int .i64 n] => some (tst (tl n), st (Lib.itoa n))
  | _ => none
theorem it45_ok : TabH Tryd.prog tp (andG 45 it45 noH) := by
  refine andH_ok Tryd.func45 rfl (by kernel_rfl) (fun ar v h => ?_) noH_ok
  unfold it45 at h
  split at h
  · rename_i n
    simp only [Option.some.injEq, Prod.mk.injEq] at h
    obtain ⟨ht, rfl⟩ := h
    obtain ⟨h0, h1⟩ := of_tst ht
    refine ⟨rfl, rfl, fun w hw => ?_⟩
    have ht := tabIs_of_holds (name := "internal/strconv.uint64pow10") (P := Tryd.prog) (by kernel_rfl) (hw (0, .u64, zs2) (by simp [tp]))
    rw [pow10] at ht
    refine (Any.strconv_Itoa itLay n h0 h1 w ht).mono ?_
    rintro e w' ⟨rfl, k, os, rfl⟩
    exact ⟨rfl, Lib.below_grow _ _ (Nat.le_refl _) _ _⟩
  · cases h
/-- How far a number is from having one digit. -/
def ms (n : Int) : Nat := if n < 0 then 2 * n.natAbs + 1 else 2 * n.natAbs
noncomputable def tx55 (k : Nat) (ar : List Value) : Option (Bool × Value) := match ar with
  | [.int .i64 n] => some (tst (tl n ∧ ms n < k), st (Lib.itoa n))
  | _ => none
theorem dig1 : ∀ m, m < 10 → List.take (m + 1 - m) (List.drop m ([48, 49, 50, 51, 52, 53, 54, 55, 56, 57] : List UInt8)) = [UInt8.ofNat (48 + m)] := by decide
theorem min_txt : Lib.itoa (-9223372036854775808) = [45, 57, 50, 50, 51, 51, 55, 50, 48, 51, 54, 56, 53, 52, 55, 55, 53, 56, 48, 56] := by
  have : Lib.itoa (-((9223372036854775808 : Nat) : Int)) = _ := Lib.itoa_neg _ (by decide)
  refine this.trans ?_
  rw [Lib.decDigits_eq, Lib.nDigits_unique 18 _ (by decide) (by decide)]
  decide
theorem itoa_len {n : Int} (h : tl n) : (Lib.itoa n).length ≤ 21 := Lib.itoa_length_le n h.1 h.2
theorem itoa_opp {n : Int} (h : n < 0) : Lib.itoa n = 45 :: Lib.itoa (-n) := by
  obtain ⟨m, rfl⟩ : ∃ m : Nat, n = -((m + 1 : Nat) : Int) := ⟨n.natAbs - 1, by omega⟩
  rw [Lib.itoa_neg _ (by omega), Int.neg_neg, Lib.itoa_nonneg]
theorem text_tree (k : Nat) (n : Int) : runT Tryd.prog tp (whA (glT tp) tp (andG 55 (tx55 k) noH)) (whK (glT tp) tp (andG 55 (tx55 k) noH)) noLK Tryd.f55 [iv n] =
    bif decide (n < 0) then bif n == IntKind.wrap IntKind.i64 (0 - n) then some (st [45, 57, 50, 50, 51, 51, 55, 50, 48, 51, 54, 56, 53, 52, 55, 55, 53, 56, 48, 56]) else bif tst (tl (IntKind.wrap IntKind.i64 (0 - n)) ∧ ms (IntKind.wrap IntKind.i64 (0 - n)) < k) && (tst (tabVs (0, IntKind.u64, zs2) = tabVs (0, IntKind.u64, zs2)) && Bool.true) then bif decide (((1 + List.length (Go.Lib.itoa (IntKind.wrap IntKind.i64 (0 - n))) : Nat) : Int) > IntKind.i64.max) then none else some (st (45 :: Go.Lib.itoa (IntKind.wrap IntKind.i64 (0 - n)))) else none
    else bif decide (n < 10) then bif decide (0 ≤ n) then bif decide (0 ≤ IntKind.wrap IntKind.i64 (n + 1)) then bif Nat.ble (Int.toNat n) (Int.toNat (IntKind.wrap IntKind.i64 (n + 1))) then bif Nat.ble (Int.toNat (IntKind.wrap IntKind.i64 (n + 1))) 10 then some (st (List.take (Int.toNat (IntKind.wrap IntKind.i64 (n + 1)) - Int.toNat n) (List.drop (Int.toNat n) ([48, 49, 50, 51, 52, 53, 54, 55, 56, 57] : List UInt8)))) else none else none else none else none
    else bif decide (0 ≤ Int.tmod n 10) then bif decide (0 ≤ IntKind.wrap IntKind.i64 (Int.tmod n 10 + 1)) then bif Nat.ble (Int.toNat (Int.tmod n 10)) (Int.toNat (IntKind.wrap IntKind.i64 (Int.tmod n 10 + 1))) then bif Nat.ble (Int.toNat (IntKind.wrap IntKind.i64 (Int.tmod n 10 + 1))) 10 then bif tst (tl (IntKind.wrap IntKind.i64 (Int.tdiv n 10)) ∧ ms (IntKind.wrap IntKind.i64 (Int.tdiv n 10)) < k) && (tst (tabVs (0, IntKind.u64, zs2) = tabVs (0, IntKind.u64, zs2)) && Bool.true) then bif decide (((List.length (Go.Lib.itoa (IntKind.wrap IntKind.i64 (Int.tdiv n 10))) + List.length (List.take (Int.toNat (IntKind.wrap IntKind.i64 (Int.tmod n 10 + 1)) - Int.toNat (Int.tmod n 10)) (List.drop (Int.toNat (Int.tmod n 10)) ([48, 49, 50, 51, 52, 53, 54, 55, 56, 57] : List UInt8))) : Nat) : Int) > IntKind.i64.max) then none else some (st (Go.Lib.itoa (IntKind.wrap IntKind.i64 (Int.tdiv n 10)) ++ List.take (Int.toNat (IntKind.wrap IntKind.i64 (Int.tmod n 10 + 1)) - Int.toNat (Int.tmod n 10)) (List.drop (Int.toNat (Int.tmod n 10)) ([48, 49, 50, 51, 52, 53, 54, 55, 56, 57] : List UInt8)))) else none else none else none else none else none := by kernel_rfl
theorem text_run (k : Nat) (n : Int) (hn : tl n) (hk : ms n < k + 1) : runT Tryd.prog tp (whA (glT tp) tp (andG 55 (tx55 k) noH)) (whK (glT tp) tp (andG 55 (tx55 k) noH)) noLK Tryd.f55 [iv n] = some (st (Lib.itoa n)) := by
  rw [text_tree]
  have hmax : IntKind.i64.max = 9223372036854775807 := by decide
  obtain ⟨hn0, hn1⟩ := hn
  by_cases h0 : n < 0
  · rw [decide_eq_true h0]
    by_cases hm : n = -9223372036854775808
    · subst hm
      rw [min_txt]
      have e : ((-9223372036854775808 : Int) == IntKind.wrap IntKind.i64 (0 - -9223372036854775808)) = true := by decide
      rw [e]; rfl
    · have e : IntKind.wrap IntKind.i64 (0 - n) = -n := by rw [i64w]; omega
      rw [e]
      have e1 : (n == -n) = false := by rw [beq_eq_false_iff_ne]; omega
      have e2 : ms (-n) < k := by unfold ms at hk ⊢; rw [if_pos h0] at hk; rw [if_neg (by omega)]; omega
      have e3 : (Lib.itoa (-n)).length ≤ 21 := itoa_len ⟨by omega, by omega⟩
      have t1 : tl (-n) := ⟨by omega, by omega⟩
      simp only [cond_true, cond_false, e1, tst_of (⟨t1, e2⟩ : tl (-n) ∧ ms (-n) < k), tst_of (trivial : True), Bool.and_self, decide_eq_false (show ¬ (((1 + (Lib.itoa (-n)).length : Nat) : Int) > IntKind.i64.max) by rw [hmax]; omega), itoa_opp h0]
  · rw [decide_eq_false h0]
    obtain ⟨m, rfl⟩ : ∃ m : Nat, n = m := ⟨n.toNat, by omega⟩
    by_cases h10 : m < 10
    · have e : IntKind.wrap IntKind.i64 ((m : Int) + 1) = ((m + 1 : Nat) : Int) := by rw [i64w]; omega
      simp only [cond_true, cond_false, decide_eq_true (show (m : Int) < 10 by omega), decide_eq_true (show (0 : Int) ≤ m by omega), e, decide_eq_true (show (0 : Int) ≤ ((m + 1 : Nat) : Int) by omega), Int.toNat_natCast, ble_t (show m ≤ m + 1 by omega), ble_t (show m + 1 ≤ 10 by omega), dig1 m h10, Lib.itoa_nonneg, Lib.decDigits_one h10]
    · have e1 : Int.tmod (m : Int) 10 = ((m % 10 : Nat) : Int) := by rw [Int.tmod_eq_emod_of_nonneg (by omega)]; omega
      have e2 : Int.tdiv (m : Int) 10 = ((m / 10 : Nat) : Int) := by rw [Int.tdiv_eq_ediv_of_nonneg (by omega)]; omega
      have e3 : IntKind.wrap IntKind.i64 (((m % 10 : Nat) : Int) + 1) = ((m % 10 + 1 : Nat) : Int) := by rw [i64w]; omega
      have e4 : IntKind.wrap IntKind.i64 ((m / 10 : Nat) : Int) = ((m / 10 : Nat) : Int) := by rw [i64w]; omega
      have t1 : tl ((m / 10 : Nat) : Int) := ⟨by omega, by omega⟩
      have t2 : ms ((m / 10 : Nat) : Int) < k := by unfold ms at hk ⊢; rw [if_neg h0] at hk; rw [if_neg (by omega)]; omega
      have t3 : (Lib.itoa ((m / 10 : Nat) : Int)).length ≤ 21 := itoa_len t1
      have t4 : Lib.itoa ((m : Nat) : Int) = Lib.itoa ((m / 10 : Nat) : Int) ++ [UInt8.ofNat (48 + m % 10)] := by
        rw [Lib.itoa_nonneg, Lib.itoa_nonneg, Lib.decDigits, dif_neg h10]
      simp only [cond_true, cond_false, decide_eq_false (show ¬ (m : Int) < 10 by omega), e1, e2, e3, e4, decide_eq_true (show (0 : Int) ≤ ((m % 10 : Nat) : Int) by omega), decide_eq_true (show (0 : Int) ≤ ((m % 10 + 1 : Nat) : Int) by omega), Int.toNat_natCast, ble_t (show m % 10 ≤ m % 10 + 1 by omega), ble_t (show m % 10 + 1 ≤ 10 by omega), dig1 (m % 10) (Nat.mod_lt _ (by decide)), tst_of (⟨t1, t2⟩ : tl ((m / 10 : Nat) : Int) ∧ ms ((m / 10 : Nat) : Int) < k), tst_of (trivial : True), Bool.and_self, t4]
      simp only [List.length_singleton, cond_false,
        decide_eq_false (show ¬ ((((Lib.itoa ((m / 10 : Nat) : Int)).length + 1 : Nat) : Int) > IntKind.i64.max) by rw [hmax]; omega)]
theorem tx55_ok : ∀ k, TabH Tryd.prog tp (andG 55 (tx55 k) noH)
  | 0 => by
    refine andH_ok Tryd.func55 rfl (by kernel_rfl) (fun ar v h => ?_) noH_ok
    unfold tx55 at h
    split at h
    · simp only [Option.some.injEq, Prod.mk.injEq] at h
      exact absurd (of_tst h.1).2 (Nat.not_lt_zero _)
    · cases h
  | k + 1 => by
    refine andH_ok Tryd.func55 rfl (by kernel_rfl) (fun ar v h => ?_) noH_ok
    unfold tx55 at h
    split at h
    · rename_i n
      simp only [Option.some.injEq, Prod.mk.injEq] at h
      obtain ⟨ht, rfl⟩ := h
      obtain ⟨h0, h1⟩ := of_tst ht
      exact callH hmix (whA_ok (tx55_ok k)) (whK_ok _ _ _) noLK_ok Tryd.func55 rfl (by kernel_rfl) noLO_ok rfl rfl (text_run k n h0 h1)
    · cases h
noncomputable def tx (ar : List Value) : Option (Bool × Value) := match ar with
  | [.int .i64 n] => some (tst (tl n), st (Lib.itoa n))
  | _ => none
/-- Numbers' texts: the program's own, and the document's. -/
noncomputable def W1 : TabF := andG 45 it45 (andG 55 tx noH)
theorem W1_ok : TabH Tryd.prog tp W1 := by
  have h55 : TabH Tryd.prog tp (andG 55 tx noH) := by
    refine andH_ok Tryd.func55 rfl (by kernel_rfl) (fun ar v h => ?_) noH_ok
    unfold tx at h
    split at h
    · rename_i n
      simp only [Option.some.injEq, Prod.mk.injEq] at h
      obtain ⟨ht, rfl⟩ := h
      have := tx55_ok (ms n + 1) 55 [.int .i64 n] (st (Lib.itoa n)) (by
        show some (tst (tl n ∧ ms n < ms n + 1), _) = _
        rw [tst_of ⟨of_tst ht, Nat.lt_succ_self _⟩])
      exact ⟨this.2.1, this.2.2.1, this.2.2.2⟩
    · cases h
  intro g ar v h
  by_cases hg : g = 45
  · subst hg; exact it45_ok 45 ar v h
  · refine h55 g ar v ?_
    have : W1 g ar = andG 55 tx noH g ar := by
      unfold W1; show andG 45 it45 (andG 55 tx noH) g ar = _
      conv => lhs; unfold andG
      rw [beq_f hg]; rfl
    rw [← this]; exact h
def nmsL : List (List UInt8) := [[99, 111, 110, 115, 116], [109, 111, 118, 101], [110, 105, 108], [97, 100, 100], [115, 117, 98], [109, 117, 108], [100, 105, 118], [109, 111, 100], [97, 110, 100], [111, 114], [120, 111, 114], [115, 104, 108], [115, 104, 114], [108, 116], [108, 101], [101, 113], [115, 97, 109, 101], [110, 111, 116], [106, 117, 109, 112], [105, 102], [99, 97, 108, 108], [99, 97, 108, 108, 99], [114, 101, 116, 117, 114, 110], [103, 111], [103, 111, 99], [110, 101, 119], [97, 114, 114, 97, 121], [103, 101, 116], [115, 101, 116], [115, 101, 116, 110], [97, 116], [112, 117, 116], [112, 117, 116, 110], [108, 101, 110], [108, 111, 97, 100], [115, 116, 111, 114, 101], [99, 108, 111, 115, 117, 114, 101], [99, 104, 97, 110], [115, 101, 110, 100], [114, 101, 99, 118], [99, 108, 111, 115, 101], [115, 101, 108, 101, 99, 116], [112, 114, 105, 110, 116], [112, 111, 108, 108], [116, 114, 97, 112]]
def cntL : List Nat := [2, 2, 1, 3, 3, 3, 3, 3, 3, 3, 3, 3, 3, 3, 3, 3, 3, 2, 1, 2, 3, 4, 1, 2, 3, 2, 3, 3, 3, 3, 3, 3, 3, 2, 2, 2, 3, 3, 2, 3, 1, 2, 1, 0, 1]
def nthL {α : Type} (d : α) : List α → Nat → α
  | [], _ => d
  | x :: _, 0 => x
  | _ :: r, n + 1 => nthL d r n
/-- An instruction's name; how many operands it names. -/
def nmF : Int → List UInt8
  | .ofNat k => nthL [] nmsL k
  | .negSucc _ => []
def ctF : Int → Nat
  | .ofNat k => nthL 0 cntL k
  | .negSucc _ => 0
noncomputable def ftab : Tr FFn := natTab noF [] (mkTab Tryd.prog gl0 [44, 78])
abbrev fdV (n : Int) : Value := .agg ⟨[st (nmF n), iv (ctF n : Nat)]⟩
set_option maxRecDepth 100000 in
theorem find_neg (m : Nat) : callF ftab 60 false 44 [iv (.negSucc m)] ⟨eH, 0⟩ (fun v _ => some v) = some (fdV (.negSucc m)) := by kernel_rfl
set_option maxRecDepth 100000 in
theorem find_big (m : Nat) : callF ftab 60 false 44 [iv (.ofNat (m + 45))] ⟨eH, 0⟩ (fun v _ => some v) = some (fdV (.ofNat (m + 45))) := by kernel_rfl
set_option maxRecDepth 100000 in
theorem find_in : (List.range 45).map (fun k => callF ftab 60 false 44 [iv (.ofNat k)] ⟨eH, 0⟩ (fun v _ => some v)) = (List.range 45).map (fun k => some (fdV (.ofNat k))) := by kernel_rfl
theorem find_run (n : Int) : callF ftab 60 false 44 [iv n] ⟨eH, 0⟩ (fun v _ => some v) = some (fdV n) := by
  cases n with
  | negSucc m => exact find_neg m
  | ofNat k =>
    by_cases h : k < 45
    · have := congrArg (fun l => l[k]?) find_in
      simpa [h] using this
    · obtain ⟨m, rfl⟩ : ∃ m, k = m + 45 := ⟨k - 45, by omega⟩
      exact find_big m
theorem find_calls (n : Int) (w : World) : Calls Tryd.prog 44 #[iv n] w fun e w' => e = .returned (fdV n) ∧ Below w.heap.size w w' :=
  fast_calls hmix noF_ok (fun _ _ _ => rfl) (find_run n) rfl rfl w
noncomputable def fdX (nm : List UInt8) (c : Nat) (ar : List Value) : Option (Bool × Value) := match ar with
  | [.int .i64 n] => some (tst (nmF n = nm ∧ ctF n = c), .agg ⟨[st nm, iv (c : Nat)]⟩)
  | _ => none
noncomputable def WX (nm : List UInt8) (c : Nat) : TabF := andG 44 (fdX nm c) W1
noncomputable abbrev wA (W : TabF) (ins : List Nat) : CallA := mixA ins (callA Tryd.prog (glT tp) (regF Tryd.prog (glT tp)) 8 false) (whA (glT tp) tp W)
noncomputable abbrev wK {R : Type} (W : TabF) (ins : List Nat) : CK R := mixK ins (inK Tryd.prog (glT tp) (regF Tryd.prog (glT tp)) 8) (whK (glT tp) tp W)
noncomputable abbrev RN (W : TabF) (ins : List Nat) (fn : Func) (ar : List Value) : Option Value := runT Tryd.prog tp (wA W ins) (wK W ins) (lkIt Tryd.prog (glT tp) (wA W ins) (wK W ins) noLK 6) fn ar
/-- What is shown: the name, and the operands behind it. -/
def shF : List UInt8 → List Int → List UInt8
  | acc, [] => acc
  | acc, a :: r => shF (acc ++ 32 :: Lib.itoa a) r
noncomputable abbrev tT : Bool := tst (tabVs (0, IntKind.u64, zs2) = tabVs (0, IntKind.u64, zs2)) && true
abbrev over (n : Nat) : Bool := decide ((n : Int) > IntKind.i64.max)
noncomputable def trT : List UInt8 → List Int → Option Value
  | acc, [] => some (st acc)
  | acc, a :: r => bif tst (tl a) && tT then (bif over (1 + (Lib.itoa a).length) then none else bif over (acc.length + ((Lib.itoa a).length + 1)) then none else trT (acc ++ 32 :: Lib.itoa a) r) else none
noncomputable def trR : List UInt8 → List Int → Option Value
  | acc, [] => some (st acc)
  | acc, a :: r => bif over (acc.length + 1) then none else bif tst (tl a) && tT then (bif over ((acc ++ [32]).length + (Lib.itoa a).length) then none else trR (acc ++ [32] ++ Lib.itoa a) r) else none
theorem tT_t : tT = true := by unfold tT; rw [tst_of rfl]; rfl
theorem over_f {n : Nat} (h : n ≤ 1000) : over n = false := by
  refine decide_eq_false ?_
  have hmax : IntKind.i64.max = 9223372036854775807 := by decide
  rw [hmax]; omega
theorem trT_ok : ∀ (l : List Int) (acc : List UInt8), (∀ a ∈ l, tl a) → acc.length + 22 * l.length ≤ 900 → trT acc l = some (st (shF acc l))
  | [], acc, _, _ => rfl
  | a :: r, acc, h, hl => by
    have h1 := itoa_len (h a (by simp))
    simp only [List.length_cons] at hl
    unfold trT shF
    rw [tst_of (h a (by simp)), tT_t, over_f (by omega), over_f (by omega)]
    exact trT_ok r _ (fun b hb => h b (by simp [hb])) (by simp only [List.length_append, List.length_cons]; omega)
theorem trR_ok : ∀ (l : List Int) (acc : List UInt8), (∀ a ∈ l, tl a) → acc.length + 22 * l.length ≤ 900 → trR acc l = some (st (shF acc l))
  | [], acc, _, _ => rfl
  | a :: r, acc, h, hl => by
    have h1 := itoa_len (h a (by simp))
    simp only [List.length_cons] at hl
    unfold trR shF
    rw [tst_of (h a (by simp)), tT_t, over_f (by omega), over_f (by simp only [List.length_append, List.length_cons, List.length_nil]; omega)]
    rw [show acc ++ [32] ++ Lib.itoa a = acc ++ 32 :: Lib.itoa a by simp]
    exact trR_ok r _ (fun b hb => h b (by simp [hb])) (by simp only [List.length_append, List.length_cons]; omega)
theorem nthL_ge {α : Type} (d : α) : ∀ (l : List α) (k : Nat), l.length ≤ k → nthL d l k = d
  | [], _, _ => rfl
  | x :: r, 0, h => absurd h (by simp)
  | x :: r, k + 1, h => nthL_ge d r k (by simpa using h)
theorem nmF_len (n : Int) : (nmF n).length ≤ 7 := by
  cases n with
  | negSucc m => exact Nat.zero_le _
  | ofNat k =>
    by_cases h : k < 45
    · exact (show ∀ k, k < 45 → (nthL [] nmsL k).length ≤ 7 by decide) k h
    · show (nthL [] nmsL k).length ≤ 7
      rw [nthL_ge _ _ _ (by show 45 ≤ k; omega)]; exact Nat.zero_le _
theorem ctF_le (n : Int) : ctF n ≤ 4 := by
  cases n with
  | negSucc m => exact Nat.zero_le _
  | ofNat k =>
    by_cases h : k < 45
    · exact (show ∀ k, k < 45 → nthL 0 cntL k ≤ 4 by decide) k h
    · show nthL 0 cntL k ≤ 4
      rw [nthL_ge _ _ _ (by show 45 ≤ k; omega)]; exact Nat.zero_le _
abbrev ins5 (n a b c d : Int) : Value := .agg ⟨[iv n, iv a, iv b, iv c, iv d]⟩
set_option maxRecDepth 100000 in
theorem sh14 (nm : List UInt8) (n a b c d : Int) : RN (WX nm 0) [] Tryd.f14 [ins5 n a b c d] = (bif tst (nmF n = nm ∧ ctF n = 0) && tT then trT nm [] else none) ∧
    RN (WX nm 1) [] Tryd.f14 [ins5 n a b c d] = (bif tst (nmF n = nm ∧ ctF n = 1) && tT then trT nm [a] else none) ∧
    RN (WX nm 2) [] Tryd.f14 [ins5 n a b c d] = (bif tst (nmF n = nm ∧ ctF n = 2) && tT then trT nm [a, b] else none) ∧
    RN (WX nm 3) [] Tryd.f14 [ins5 n a b c d] = (bif tst (nmF n = nm ∧ ctF n = 3) && tT then trT nm [a, b, c] else none) ∧
    RN (WX nm 4) [] Tryd.f14 [ins5 n a b c d] = (bif tst (nmF n = nm ∧ ctF n = 4) && tT then trT nm [a, b, c, d] else none) := ⟨by kernel_rfl, by kernel_rfl, by kernel_rfl, by kernel_rfl, by kernel_rfl⟩
abbrev opsOf (n a b c d : Int) : List Int := [a, b, c, d].take (ctF n)
/-- What an instruction shows. -/
def shV (n a b c d : Int) : List UInt8 := shF (nmF n) (opsOf n a b c d)
theorem ops_tl {n a b c d : Int} (h : tl a ∧ tl b ∧ tl c ∧ tl d) : ∀ x ∈ opsOf n a b c d, tl x := by
  intro x hx
  have := List.mem_of_mem_take hx
  simp only [List.mem_cons, List.not_mem_nil, or_false] at this
  rcases this with rfl | rfl | rfl | rfl
  · exact h.1
  · exact h.2.1
  · exact h.2.2.1
  · exact h.2.2.2
theorem ops_len (n a b c d : Int) : (nmF n).length + 22 * (opsOf n a b c d).length ≤ 900 := by
  have := nmF_len n
  have : (opsOf n a b c d).length ≤ 4 := by unfold opsOf; rw [List.length_take]; exact Nat.min_le_right _ _
  omega
theorem sh14_run (n a b c d : Int) (h : tl a ∧ tl b ∧ tl c ∧ tl d) : RN (WX (nmF n) (ctF n)) [] Tryd.f14 [ins5 n a b c d] = some (st (shV n a b c d)) := by
  have h4 := ctF_le n
  obtain ⟨t0, t1, t2, t3, t4⟩ := sh14 (nmF n) n a b c d
  have key : ∀ l, l = opsOf n a b c d → trT (nmF n) l = some (st (shV n a b c d)) := by
    rintro _ rfl
    exact trT_ok _ _ (ops_tl h) (ops_len n a b c d)
  have hc : ctF n = 0 ∨ ctF n = 1 ∨ ctF n = 2 ∨ ctF n = 3 ∨ ctF n = 4 := by omega
  rcases hc with hc | hc | hc | hc | hc
  · rw [hc, t0, tst_of ⟨rfl, hc⟩, tT_t]; exact key _ (by rw [opsOf, hc]; rfl)
  · rw [hc, t1, tst_of ⟨rfl, hc⟩, tT_t]; exact key _ (by rw [opsOf, hc]; rfl)
  · rw [hc, t2, tst_of ⟨rfl, hc⟩, tT_t]; exact key _ (by rw [opsOf, hc]; rfl)
  · rw [hc, t3, tst_of ⟨rfl, hc⟩, tT_t]; exact key _ (by rw [opsOf, hc]; rfl)
  · rw [hc, t4, tst_of ⟨rfl, hc⟩, tT_t]; exact key _ (by rw [opsOf, hc]; rfl)
theorem find_ok (nm : List UInt8) (c : Nat) : TabH Tryd.prog tp (WX nm c) := by
  refine andH_ok Tryd.func44 rfl (by kernel_rfl) (fun ar v h => ?_) W1_ok
  unfold fdX at h
  split at h
  · rename_i n
    simp only [Option.some.injEq, Prod.mk.injEq] at h
    obtain ⟨ht, rfl⟩ := h
    obtain ⟨h1, h2⟩ := of_tst ht
    subst h1 h2
    exact ⟨rfl, rfl, fun w _ => find_calls n w⟩
  · cases h
theorem wA_ok {W : TabF} (hW : TabH Tryd.prog tp W) (ins : List Nat) : CallOK Tryd.prog (glT tp) (wA W ins) := mixA_ok (callA_ok (regF_ok hmix) 8).1 (whA_ok hW)
theorem wK_ok {R : Type} (W : TabF) (ins : List Nat) : CKok (R := R) (wA W ins) (wK W ins) := mixK_ok (inK_ok 8) (whK_ok _ _ _)
theorem callRN {W : TabF} (hW : TabH Tryd.prog tp W) (ins : List Nat) {g : FuncId} {fn : Func} {c : Code} {ar : List Value} {v : Value}
    (hfn : Tryd.prog.funcs[g]? = some fn) (hb : fn.body = some c) (hname : (fn.name == "runtime.NumGoroutine") = false) (hlo : ((loopsOf (bodyOf fn)).all fun c => (loopsOf c).isEmpty) = true) (hp : ar.all plainV = true) (hv : plainV v = true) (hrun : RN W ins fn ar = some v) :
    ar.all plainV = true ∧ plainV v = true ∧ ∀ (w : World), (∀ x ∈ tp, Holds w x) → Calls Tryd.prog g ⟨ar⟩ w fun e w' => e = .returned v ∧ Below w.heap.size w w' :=
  callH hmix (wA_ok hW ins) (wK_ok W ins) (lkIt_ok (wK_ok W ins) noLK_ok 6) hfn hb hname (loIt_ok hmix (wA_ok hW ins) (fun c hc => by
    have := List.all_eq_true.1 hlo c hc
    rw [List.isEmpty_iff.1 this]
    intro c' hc'; cases hc') 6) hp hv hrun
noncomputable def sh14E (ar : List Value) : Option (Bool × Value) := match ar with
  | [.agg ⟨[.int .i64 n, .int .i64 a, .int .i64 b, .int .i64 c, .int .i64 d]⟩] => some (tst (tl a ∧ tl b ∧ tl c ∧ tl d), st (shV n a b c d))
  | _ => none
def nmE (ar : List Value) : Option (Bool × Value) := match ar with
  | [.int .i64 n] => some (true, st (nmF n))
  | _ => none
theorem sh14_calls {ar : List Value} {v : Value} (h : sh14E ar = some (true, v)) : ar.all plainV = true ∧ plainV v = true ∧ ∀ (w : World), (∀ x ∈ tp, Holds w x) → Calls Tryd.prog 14 ⟨ar⟩ w fun e w' => e = .returned v ∧ Below w.heap.size w w' := by
  unfold sh14E at h
  split at h
  · rename_i n a b c d
    simp only [Option.some.injEq, Prod.mk.injEq] at h
    obtain ⟨ht, rfl⟩ := h
    exact callRN (find_ok (nmF n) (ctF n)) [] Tryd.func14 rfl (by kernel_rfl) (by kernel_rfl) rfl rfl (sh14_run n a b c d (of_tst ht))
  · cases h
set_option maxRecDepth 100000 in
theorem nm13 (nm : List UInt8) (c : Nat) (n : Int) : RN (WX nm c) [] Tryd.f13 [iv n] = (bif tst (nmF n = nm ∧ ctF n = c) && tT then some (st nm) else none) := by kernel_rfl
theorem nm13_calls {ar : List Value} {v : Value} (h : nmE ar = some (true, v)) : ar.all plainV = true ∧ plainV v = true ∧ ∀ (w : World), (∀ x ∈ tp, Holds w x) → Calls Tryd.prog 13 ⟨ar⟩ w fun e w' => e = .returned v ∧ Below w.heap.size w w' := by
  unfold nmE at h
  split at h
  · rename_i n
    simp only [Option.some.injEq, Prod.mk.injEq] at h
    obtain ⟨_, rfl⟩ := h
    exact callRN (find_ok (nmF n) (ctF n)) [] Tryd.func13 rfl (by kernel_rfl) (by kernel_rfl) rfl rfl (by rw [nm13, tst_of ⟨rfl, rfl⟩, tT_t]; rfl)
  · cases h
set_option maxRecDepth 100000
noncomputable abbrev rS (k : Nat) (a b c d : Int) : Option Value := RN W1 [54] Tryd.f21 [ins5 (.ofNat k) a b c d]
noncomputable abbrev rT (k : Nat) (a b c d : Int) : Option Value := trR (nmF (.ofNat k)) (opsOf (.ofNat k) a b c d)
theorem rs0 (a b c d : Int) : (List.range 15).map (fun k => rS k a b c d) = (List.range 15).map (fun k => rT k a b c d) := by kernel_rfl
theorem rs1 (a b c d : Int) : (List.range 15).map (fun k => rS (k + 15) a b c d) = (List.range 15).map (fun k => rT (k + 15) a b c d) := by kernel_rfl
theorem rs2 (a b c d : Int) : (List.range 15).map (fun k => rS (k + 30) a b c d) = (List.range 15).map (fun k => rT (k + 30) a b c d) := by kernel_rfl
theorem rs_neg (m : Nat) (a b c d : Int) : RN W1 [] Tryd.f21 [ins5 (.negSucc m) a b c d] = (bif decide (Int.negSucc m < 0) then some (st []) else none) := by kernel_rfl
theorem rs_big (m : Nat) (a b c d : Int) : RN W1 [] Tryd.f21 [ins5 (.ofNat (m + 45)) a b c d] = (bif decide (Int.ofNat (m + 45) > 44) then some (st []) else none) := by kernel_rfl
theorem rn_in : (List.range 45).map (fun k => RN W1 [54] Tryd.f16 [iv (.ofNat k)]) = (List.range 45).map (fun k => some (st (nmF (.ofNat k)))) := by kernel_rfl
theorem rn_neg (m : Nat) : RN W1 [] Tryd.f16 [iv (.negSucc m)] = (bif decide (Int.negSucc m < 0) then some (st []) else none) := by kernel_rfl
theorem rn_big (m : Nat) : RN W1 [] Tryd.f16 [iv (.ofNat (m + 45))] = (bif decide (Int.ofNat (m + 45) > 44) then some (st []) else none) := by kernel_rfl
theorem nm_big (m : Nat) : nmF (.ofNat (m + 45)) = [] := nthL_ge _ _ _ (by show 45 ≤ m + 45; omega)
theorem map_range {α : Type} {n : Nat} {f g : Nat → α} (h : (List.range n).map f = (List.range n).map g) {k : Nat} (hk : k < n) : f k = g k := by
  have := congrArg (fun l => l[k]?) h
  simpa [hk] using this
theorem sh21_run (n a b c d : Int) (h : tl a ∧ tl b ∧ tl c ∧ tl d) : ∃ i, RN W1 i Tryd.f21 [ins5 n a b c d] = some (st (shV n a b c d)) := by
  cases n with
  | negSucc m =>
    refine ⟨[], ?_⟩
    rw [rs_neg, decide_eq_true (by omega)]; rfl
  | ofNat k =>
    by_cases hk : k < 45
    · refine ⟨[54], ?_⟩
      have key : rS k a b c d = rT k a b c d := by
        by_cases h1 : k < 15
        · exact map_range (rs0 a b c d) h1
        · by_cases h2 : k < 30
          · have := map_range (rs1 a b c d) (k := k - 15) (by omega)
            rwa [show k - 15 + 15 = k by omega] at this
          · have := map_range (rs2 a b c d) (k := k - 30) (by omega)
            rwa [show k - 30 + 30 = k by omega] at this
      exact key.trans (trR_ok _ _ (ops_tl h) (ops_len _ a b c d))
    · obtain ⟨m, rfl⟩ : ∃ m, k = m + 45 := ⟨k - 45, by omega⟩
      refine ⟨[], ?_⟩
      rw [rs_big, decide_eq_true (show Int.ofNat (m + 45) > 44 by rw [Int.ofNat_eq_natCast]; omega), shV, nm_big]
      have hc : ctF (.ofNat (m + 45)) = 0 := nthL_ge _ _ _ (by show 45 ≤ m + 45; omega)
      rw [opsOf, hc]; rfl
theorem nm16_run (n : Int) : ∃ i, RN W1 i Tryd.f16 [iv n] = some (st (nmF n)) := by
  cases n with
  | negSucc m => exact ⟨[], by rw [rn_neg, decide_eq_true (by omega)]; rfl⟩
  | ofNat k =>
    by_cases hk : k < 45
    · exact ⟨[54], map_range rn_in hk⟩
    · obtain ⟨m, rfl⟩ : ∃ m, k = m + 45 := ⟨k - 45, by omega⟩
      exact ⟨[], by rw [rn_big, decide_eq_true (show Int.ofNat (m + 45) > 44 by rw [Int.ofNat_eq_natCast]; omega), nm_big]; rfl⟩
theorem sh21_calls {ar : List Value} {v : Value} (h : sh14E ar = some (true, v)) : ar.all plainV = true ∧ plainV v = true ∧ ∀ (w : World), (∀ x ∈ tp, Holds w x) → Calls Tryd.prog 21 ⟨ar⟩ w fun e w' => e = .returned v ∧ Below w.heap.size w w' := by
  unfold sh14E at h
  split at h
  · rename_i n a b c d
    simp only [Option.some.injEq, Prod.mk.injEq] at h
    obtain ⟨ht, rfl⟩ := h
    obtain ⟨i, hi⟩ := sh21_run n a b c d (of_tst ht)
    exact callRN W1_ok i Tryd.func21 rfl (by kernel_rfl) (by kernel_rfl) rfl rfl hi
  · cases h
theorem nm16_calls {ar : List Value} {v : Value} (h : nmE ar = some (true, v)) : ar.all plainV = true ∧ plainV v = true ∧ ∀ (w : World), (∀ x ∈ tp, Holds w x) → Calls Tryd.prog 16 ⟨ar⟩ w fun e w' => e = .returned v ∧ Below w.heap.size w w' := by
  unfold nmE at h
  split at h
  · rename_i n
    simp only [Option.some.injEq, Prod.mk.injEq] at h
    obtain ⟨_, rfl⟩ := h
    obtain ⟨i, hi⟩ := nm16_run n
    exact callRN W1_ok i Tryd.func16 rfl (by kernel_rfl) (by kernel_rfl) rfl rfl hi
  · cases h
def mkB (n : Int) : Bool := n == 25 || n == 26 || n == 36 || n == 37
def ptB (n : Int) : Bool := n == 20 || n == 21 || n == 23 || n == 24 || n == 38 || n == 39 || n == 41 || n == 43 || mkB n
def mkE (ar : List Value) : Option (Bool × Value) := match ar with
  | [.int .i64 n] => some (true, .bool (mkB n))
  | _ => none
def ptE (ar : List Value) : Option (Bool × Value) := match ar with
  | [.int .i64 n] => some (true, .bool (ptB n))
  | _ => none
abbrev bt (b : Bool) (x : Option Value) : Option Value := bif b then some (.bool true) else x
abbrev bf : Option Value := some (.bool false)
theorem mk_run (n : Int) : RN W1 [] Tryd.f19 [iv n] = bt (n == 25) (bt (n == 26) (bt (n == 36) (bt (n == 37) bf))) ∧ RN W1 [] Tryd.f20 [iv n] = bt (n == 25) (bt (n == 26) (bt (n == 36) (bt (n == 37) bf))) := ⟨by kernel_rfl, by kernel_rfl⟩
theorem pt_run (n : Int) : RN W1 [19] Tryd.f17 [iv n] = bt (n == 20) (bt (n == 21) (bt (n == 23) (bt (n == 24) (bt (n == 38) (bt (n == 39) (bt (n == 41) (bt (n == 43) (bt (n == 25) (bt (n == 26) (bt (n == 36) (bt (n == 37) bf))))))))))) ∧
    RN W1 [20] Tryd.f18 [iv n] = bt (n == 25) (bt (n == 26) (bt (n == 36) (bt (n == 37) (bt (n == 20) (bt (n == 21) (bt (n == 23) (bt (n == 24) (bt (n == 38) (bt (n == 39) (bt (n == 41) (bt (n == 43) bf))))))))))) := ⟨by kernel_rfl, by kernel_rfl⟩
theorem bt_or (a b : Bool) : bt a (some (.bool b)) = some (.bool (a || b)) := by cases a <;> rfl
theorem mk_eq (n : Int) : bt (n == 25) (bt (n == 26) (bt (n == 36) (bt (n == 37) bf))) = some (.bool (mkB n)) := by
  unfold bf; rw [bt_or, bt_or, bt_or, bt_or]; unfold mkB; simp only [Bool.or_false, Bool.or_assoc]
theorem pt_eq1 (n : Int) : bt (n == 20) (bt (n == 21) (bt (n == 23) (bt (n == 24) (bt (n == 38) (bt (n == 39) (bt (n == 41) (bt (n == 43) (bt (n == 25) (bt (n == 26) (bt (n == 36) (bt (n == 37) bf))))))))))) = some (.bool (ptB n)) := by
  rw [mk_eq]; iterate 8 rw [bt_or]
  unfold ptB; simp only [Bool.or_assoc]
theorem pt_eq2 (n : Int) : bt (n == 25) (bt (n == 26) (bt (n == 36) (bt (n == 37) (bt (n == 20) (bt (n == 21) (bt (n == 23) (bt (n == 24) (bt (n == 38) (bt (n == 39) (bt (n == 41) (bt (n == 43) bf))))))))))) = some (.bool (ptB n)) := by
  unfold bf; iterate 12 rw [bt_or]
  unfold ptB mkB; simp only [Bool.or_assoc, Bool.or_false]
  congr 2
  rw [Bool.eq_iff_iff]; simp only [Bool.or_eq_true]; constructor <;> (intro h; rcases h with h | h | h | h | h | h | h | h | h | h | h | h <;> simp [h])
theorem mkE_calls {g : FuncId} (hg : g = 19 ∨ g = 20) {ar : List Value} {v : Value} (h : mkE ar = some (true, v)) : ar.all plainV = true ∧ plainV v = true ∧ ∀ (w : World), (∀ x ∈ tp, Holds w x) → Calls Tryd.prog g ⟨ar⟩ w fun e w' => e = .returned v ∧ Below w.heap.size w w' := by
  unfold mkE at h
  split at h
  · rename_i n
    simp only [Option.some.injEq, Prod.mk.injEq] at h
    obtain ⟨_, rfl⟩ := h
    rcases hg with rfl | rfl
    · exact callRN W1_ok [] Tryd.func19 rfl (by kernel_rfl) (by kernel_rfl) rfl rfl ((mk_run n).1.trans (mk_eq n))
    · exact callRN W1_ok [] Tryd.func20 rfl (by kernel_rfl) (by kernel_rfl) rfl rfl ((mk_run n).2.trans (mk_eq n))
  · cases h
theorem ptE_calls {g : FuncId} (hg : g = 17 ∨ g = 18) {ar : List Value} {v : Value} (h : ptE ar = some (true, v)) : ar.all plainV = true ∧ plainV v = true ∧ ∀ (w : World), (∀ x ∈ tp, Holds w x) → Calls Tryd.prog g ⟨ar⟩ w fun e w' => e = .returned v ∧ Below w.heap.size w w' := by
  unfold ptE at h
  split at h
  · rename_i n
    simp only [Option.some.injEq, Prod.mk.injEq] at h
    obtain ⟨_, rfl⟩ := h
    rcases hg with rfl | rfl
    · exact callRN W1_ok [19] Tryd.func17 rfl (by kernel_rfl) (by kernel_rfl) rfl rfl ((pt_run n).1.trans (pt_eq1 n))
    · exact callRN W1_ok [20] Tryd.func18 rfl (by kernel_rfl) (by kernel_rfl) rfl rfl ((pt_run n).2.trans (pt_eq2 n))
  · cases h
/-- What the laws ask for, told. -/
noncomputable def W3 : TabF := andG 14 sh14E (andG 21 sh14E (andG 13 nmE (andG 16 nmE (andG 17 ptE (andG 18 ptE (andG 19 mkE (andG 20 mkE noH)))))))
theorem W3_ok : TabH Tryd.prog tp W3 :=
  andH_ok Tryd.func14 rfl (by kernel_rfl) (fun ar v h => sh14_calls h) (andH_ok Tryd.func21 rfl (by kernel_rfl) (fun ar v h => sh21_calls h)
    (andH_ok Tryd.func13 rfl (by kernel_rfl) (fun ar v h => nm13_calls h) (andH_ok Tryd.func16 rfl (by kernel_rfl) (fun ar v h => nm16_calls h)
    (andH_ok Tryd.func17 rfl (by kernel_rfl) (fun ar v h => ptE_calls (.inl rfl) h) (andH_ok Tryd.func18 rfl (by kernel_rfl) (fun ar v h => ptE_calls (.inr rfl) h)
    (andH_ok Tryd.func19 rfl (by kernel_rfl) (fun ar v h => mkE_calls (.inl rfl) h) (andH_ok Tryd.func20 rfl (by kernel_rfl) (fun ar v h => mkE_calls (.inr rfl) h) noH_ok)))))))
theorem TabH.mono {l l' : Tabs} {W : TabF} (h : TabH Tryd.prog l W) (hl : ∀ x ∈ l, x ∈ l') : TabH Tryd.prog l' W := by
  intro g ar v hv
  obtain ⟨h1, h2, h3, h4⟩ := h g ar v hv
  exact ⟨h1, h2, h3, fun w hw => h4 w fun x hx => hw x (hl x hx)⟩
set_option maxRecDepth 100000 in
theorem awake_run : okA (callA Tryd.prog (glT tabs) (regF Tryd.prog (glT tabs)) 200 false 10 [] (hT tabs)) = true := by kernel_rfl
def awE (ar : List Value) : Option (Bool × Value) := match ar with
  | [] => some (true, .bool true)
  | _ => none
noncomputable def W4 : TabF := andG 10 awE W3
theorem W4_ok : TabH Tryd.prog tabs W4 := by
  refine andH_ok Tryd.func10 rfl (by kernel_rfl) (fun ar v h => ?_) (W3_ok.mono (by simp [tp, tabs]))
  unfold awE at h
  split at h
  · simp only [Option.some.injEq, Prod.mk.injEq] at h
    obtain ⟨_, rfl⟩ := h
    exact ⟨rfl, rfl, fun w hw => tab_law (regF_ok hmix) awake_run rfl w hw⟩
  · cases h
noncomputable abbrev lA : CallA := mixA [22] (callA Tryd.prog (glT tabs) (regF Tryd.prog (glT tabs)) 8 false) (whA (glT tabs) tabs W4)
noncomputable abbrev lK {R : Type} : CK R := mixK [22] (inK Tryd.prog (glT tabs) (regF Tryd.prog (glT tabs)) 8) (whK (glT tabs) tabs W4)
theorem lA_ok : CallOK Tryd.prog (glT tabs) lA := mixA_ok (callA_ok (regF_ok hmix) 8).1 (whA_ok W4_ok)
theorem lK_ok {R : Type} : CKok (R := R) lA lK := mixK_ok (inK_ok 8) (whK_ok _ _ _)
/-- What digits tell. -/
def dval (l : List UInt8) : Nat := l.foldl (fun v b => 10 * v + (b.toNat - 48)) 0
theorem u8dig {d : Nat} (h : d < 10) : (UInt8.ofNat (48 + d)).toNat = 48 + d := by
  rw [UInt8.toNat_ofNat']; omega
theorem dval_dec (u : Nat) : dval (Lib.decDigits u) = u := by
  induction u using Nat.strongRecOn with
  | _ u ih =>
    rw [Lib.decDigits]
    by_cases h : u < 10
    · rw [dif_pos h]
      show 10 * 0 + ((UInt8.ofNat (48 + u)).toNat - 48) = u
      rw [u8dig h]; omega
    · rw [dif_neg h]
      unfold dval
      rw [List.foldl_append]
      show 10 * dval (Lib.decDigits (u / 10)) + ((UInt8.ofNat (48 + u % 10)).toNat - 48) = u
      rw [ih (u / 10) (by omega), u8dig (Nat.mod_lt _ (by decide))]; omega
theorem dec_ge (u : Nat) : ∀ b ∈ Lib.decDigits u, 48 ≤ b.toNat := by
  induction u using Nat.strongRecOn with
  | _ u ih =>
    intro b hb
    rw [Lib.decDigits] at hb
    by_cases h : u < 10
    · rw [dif_pos h] at hb
      rw [List.mem_singleton.1 hb, u8dig h]; omega
    · rw [dif_neg h] at hb
      rcases List.mem_append.1 hb with hb | hb
      · exact ih (u / 10) (by omega) b hb
      · rw [List.mem_singleton.1 hb, u8dig (Nat.mod_lt _ (by decide))]; omega
theorem itoa_inj {a b : Int} (h : Lib.itoa a = Lib.itoa b) : a = b := by
  have pos : ∀ (m : Nat) (r : List UInt8), Lib.decDigits m ≠ 45 :: r := fun m r e => by
    have := dec_ge m 45 (by rw [e]; simp)
    revert this; decide
  have dinj : ∀ m k : Nat, Lib.decDigits m = Lib.decDigits k → m = k := fun m k e => by
    have := congrArg dval e
    rwa [dval_dec, dval_dec] at this
  by_cases ha : a < 0
  · obtain ⟨m, rfl⟩ : ∃ m : Nat, a = -((m + 1 : Nat) : Int) := ⟨a.natAbs - 1, by omega⟩
    rw [Lib.itoa_neg _ (by omega)] at h
    by_cases hb : b < 0
    · obtain ⟨k, rfl⟩ : ∃ k : Nat, b = -((k + 1 : Nat) : Int) := ⟨b.natAbs - 1, by omega⟩
      rw [Lib.itoa_neg _ (by omega)] at h
      rw [dinj _ _ (List.cons.inj h).2]
    · obtain ⟨k, rfl⟩ : ∃ k : Nat, b = k := ⟨b.toNat, by omega⟩
      rw [Lib.itoa_nonneg] at h
      exact absurd h.symm (pos _ _)
  · obtain ⟨m, rfl⟩ : ∃ m : Nat, a = m := ⟨a.toNat, by omega⟩
    rw [Lib.itoa_nonneg] at h
    by_cases hb : b < 0
    · obtain ⟨k, rfl⟩ : ∃ k : Nat, b = -((k + 1 : Nat) : Int) := ⟨b.natAbs - 1, by omega⟩
      rw [Lib.itoa_neg _ (by omega)] at h
      exact absurd h (pos _ _)
    · obtain ⟨k, rfl⟩ : ∃ k : Nat, b = k := ⟨b.toNat, by omega⟩
      rw [Lib.itoa_nonneg] at h
      rw [dinj _ _ h]
theorem shF_app : ∀ (l : List Int) (acc : List UInt8), shF acc l = acc ++ shF [] l
  | [], acc => by simp [shF]
  | a :: r, acc => by
    unfold shF
    rw [shF_app r, shF_app r ([] ++ 32 :: Lib.itoa a)]
    simp
theorem nm_ct {n : Int} (h : nmF n = []) : ctF n = 0 := by
  cases n with
  | negSucc m => rfl
  | ofNat k =>
    by_cases hk : k < 45
    · exact absurd h ((show ∀ k, k < 45 → nthL [] nmsL k ≠ [] by decide) k hk)
    · exact nthL_ge _ _ _ (by show 45 ≤ k; omega)
theorem ct_pos {n : Int} (h : nmF n ≠ []) (h43 : n ≠ 43) : 1 ≤ ctF n := by
  cases n with
  | negSucc m => exact absurd rfl h
  | ofNat k =>
    by_cases hk : k < 45
    · refine (show ∀ k, k < 45 → k ≠ 43 → 1 ≤ nthL 0 cntL k by decide) k hk ?_
      rintro rfl; exact h43 rfl
    · exact absurd (nthL_ge _ _ _ (by show 45 ≤ k; omega)) h
theorem shV_pre (n a b c d : Int) : ∃ r, shV n a b c d = nmF n ++ r := ⟨_, shF_app _ _⟩
theorem shV_fst {n : Int} (h : 1 ≤ ctF n) (a b c d : Int) : shV n a b c d = nmF n ++ (32 :: Lib.itoa a ++ shF [] ([b, c, d].take (ctF n - 1))) := by
  unfold shV opsOf
  obtain ⟨k, hk⟩ : ∃ k, ctF n = k + 1 := ⟨ctF n - 1, by omega⟩
  rw [hk, List.take_succ_cons, shF, shF_app]
  simp
noncomputable abbrev tQ : Bool := tst (tabVs (1, IntKind.u8, zs0) = tabVs (1, IntKind.u8, zs0)) && (tst (tabVs (2, IntKind.u8, zs1) = tabVs (2, IntKind.u8, zs1)) && (tst (tabVs (0, IntKind.u64, zs2) = tabVs (0, IntKind.u64, zs2)) && true))
noncomputable abbrev gq (b : Bool) (x : Option Value) : Option Value := bif b && tQ then x else none
theorem gq_t (x : Option Value) : gq true x = x := by unfold gq tQ; rw [tst_of rfl, tst_of rfl, tst_of rfl]; rfl
abbrev bT : Option Value := some (.bool true)
set_option maxRecDepth 100000 in
theorem t4 (n a b c d : Int) : runT Tryd.prog tabs lA lK noLK Tryd.f4 [ins5 n a b c d] =
    gq true (gq true (gq true (bif nmF n == nmF n then
      gq true (bif ptB n then gq true (bif ptB n then gq true (bif mkB n then gq true (bif mkB n then gq (tst (tl a ∧ tl b ∧ tl c ∧ tl d)) (gq (tst (tl a ∧ tl b ∧ tl c ∧ tl d)) (bif shV n a b c d == shV n a b c d then bT else bf)) else bf) else gq true (bif mkB n then bf else gq (tst (tl a ∧ tl b ∧ tl c ∧ tl d)) (gq (tst (tl a ∧ tl b ∧ tl c ∧ tl d)) (bif shV n a b c d == shV n a b c d then bT else bf)))) else bf)
        else gq true (bif ptB n then bf else gq true (bif mkB n then gq true (bif mkB n then gq (tst (tl a ∧ tl b ∧ tl c ∧ tl d)) (gq (tst (tl a ∧ tl b ∧ tl c ∧ tl d)) (bif shV n a b c d == shV n a b c d then bT else bf)) else bf) else gq true (bif mkB n then bf else gq (tst (tl a ∧ tl b ∧ tl c ∧ tl d)) (gq (tst (tl a ∧ tl b ∧ tl c ∧ tl d)) (bif shV n a b c d == shV n a b c d then bT else bf)))))) else bf))) := by kernel_rfl
set_option maxRecDepth 100000 in
theorem t9 (n a b c d e : Int) : runT Tryd.prog tabs lA lK noLK Tryd.f9 [ins5 n a b c d, iv e] =
    gq true (gq (tst (tl a ∧ tl b ∧ tl c ∧ tl d)) (gq true (bif nmF n == [] then (bif shV n a b c d == [] then bT else bf) else bif decide (((shV n a b c d).length : Int) < ((nmF n).length : Int)) then bf else bif Nat.ble (Int.toNat ((nmF n).length : Int)) (shV n a b c d).length then (bif !(List.take (Int.toNat ((nmF n).length : Int)) (shV n a b c d) == nmF n) then bf else bif n == 43 then bT else
      bif e == a then gq (tst (tl e ∧ tl b ∧ tl c ∧ tl d)) (bif shV n e b c d == shV n a b c d then bT else bf) else gq (tst (tl e ∧ tl b ∧ tl c ∧ tl d)) (bif shV n e b c d == shV n a b c d then bf else bT)) else none))) := by kernel_rfl
theorem names_run (n a b c d : Int) (h : tl a ∧ tl b ∧ tl c ∧ tl d) : runT Tryd.prog tabs lA lK noLK Tryd.f4 [ins5 n a b c d] = bT := by
  rw [t4, tst_of h]
  simp only [gq_t, beq_self_eq_true, cond_true]
  cases ptB n <;> cases mkB n <;> rfl
theorem shows_run (n a b c d e : Int) (h : tl a ∧ tl b ∧ tl c ∧ tl d) (he : tl e) : runT Tryd.prog tabs lA lK noLK Tryd.f9 [ins5 n a b c d, iv e] = bT := by
  rw [t9, tst_of h, tst_of (⟨he, h.2⟩ : tl e ∧ tl b ∧ tl c ∧ tl d)]
  simp only [gq_t]
  by_cases hn : nmF n = []
  · have : shV n a b c d = [] := by unfold shV opsOf; rw [nm_ct hn, hn]; rfl
    rw [this, hn]; rfl
  · rw [beq_false_of_ne hn]
    obtain ⟨r, hr⟩ := shV_pre n a b c d
    have hl : (nmF n).length ≤ (shV n a b c d).length := by rw [hr, List.length_append]; omega
    have ht : List.take (nmF n).length (shV n a b c d) = nmF n := by rw [hr, List.take_left]
    rw [decide_eq_false (by omega), Int.toNat_natCast, ble_t hl, ht]
    simp only [cond_false, cond_true, beq_self_eq_true, Bool.not_true]
    by_cases h43 : n = 43
    · subst h43; rfl
    · rw [beq_false_of_ne h43, cond_false]
      have hc := ct_pos hn h43
      by_cases hea : e = a
      · subst hea; rw [beq_self_eq_true, beq_self_eq_true]; rfl
      · rw [beq_false_of_ne hea, beq_false_of_ne (fun g => hea ?_)]
        · rfl
        · rw [shV_fst hc, shV_fst hc] at g
          have g2 := List.append_cancel_left g
          have g3 := List.append_cancel_right g2
          exact itoa_inj (List.cons.inj g3).2
theorem ckInt {k : IntKind} {v : Value} (h : ckOk (.int k) v) : ∃ x, v = .int k x ∧ (Lit.int k x).wf = true := h
theorem cks5 {cs : List Value} (h : Cks [.int .i64, .int .i64, .int .i64, .int .i64, .int .i64] cs) : ∃ n a b c d, cs = [iv n, iv a, iv b, iv c, iv d] ∧ tl a ∧ tl b ∧ tl c ∧ tl d := by
  have key : ∀ {v : Value}, ckOk (.int .i64) v → ∃ x, v = iv x ∧ tl x := fun {v} hv => by
    obtain ⟨x, rfl, hx⟩ := ckInt hv
    simp [Lit.wf, IntKind.min, IntKind.max, IntKind.bits, IntKind.signed] at hx
    exact ⟨x, rfl, by unfold tl; omega⟩
  cases h with | cons h0 h => cases h with | cons h1 h => cases h with | cons h2 h => cases h with | cons h3 h => cases h with | cons h4 h => cases h with | nil =>
  obtain ⟨n, rfl, _⟩ := key h0
  obtain ⟨a, rfl, ha⟩ := key h1
  obtain ⟨b, rfl, hb⟩ := key h2
  obtain ⟨c, rfl, hc⟩ := key h3
  obtain ⟨d, rfl, hd⟩ := key h4
  exact ⟨n, a, b, c, d, rfl, ha, hb, hc, hd⟩
theorem callHT {call : CallA} (hcall : CallOK Tryd.prog (glT tabs) call) {callK : CK Value} (hK : CKok call callK) {g : FuncId} {fn : Func} {c : Code} {ar : List Value} {v : Value}
    (hfn : Tryd.prog.funcs[g]? = some fn) (hb : fn.body = some c) (hname : (fn.name == "runtime.NumGoroutine") = false) (hrun : runT Tryd.prog tabs call callK noLK fn ar = some v) (w : World) (hw : ∀ x ∈ tabs, Holds w x) (hp : ar.all plainV = true := by rfl) (hv : plainV v = true := by rfl) :
    Calls Tryd.prog g ⟨ar⟩ w fun e w' => e = .returned v ∧ Below w.heap.size w w' :=
  (callH hmix hcall hK noLK_ok hfn hb hname noLO_ok hp hv hrun).2.2 w hw
theorem names_walk (cs : List Value) (w : World) (h : Cks [.int .i64, .int .i64, .int .i64, .int .i64, .int .i64] cs) (hw : ∀ x ∈ tabs, Holds w x) : Calls Tryd.prog 4 #[.agg ⟨cs⟩] w fun e w' => e = .returned (.bool true) ∧ Below w.heap.size w w' := by
  obtain ⟨n, a, b, c, d, rfl, h5⟩ := cks5 h
  exact (callHT lA_ok lK_ok Tryd.func4 rfl (by kernel_rfl) (names_run n a b c d h5) w hw)
theorem shows_walk (cs : List Value) (e : Int) (w : World) (h : Cks [.int .i64, .int .i64, .int .i64, .int .i64, .int .i64] cs) (he : (Lit.int .i64 e).wf = true) (hw : ∀ x ∈ tabs, Holds w x) : Calls Tryd.prog 9 #[.agg ⟨cs⟩, .int .i64 e] w fun e w' => e = .returned (.bool true) ∧ Below w.heap.size w w' := by
  obtain ⟨n, a, b, c, d, rfl, h5⟩ := cks5 h
  simp [Lit.wf, IntKind.min, IntKind.max, IntKind.bits, IntKind.signed] at he
  exact (callHT lA_ok lK_ok Tryd.func9 rfl (by kernel_rfl) (shows_run n a b c d e h5 (by unfold tl; omega)) w hw)
end Go.Proofs.YtgbfbpcimffdaaaDoor.AI
