/- Functions of whole numbers, run with numbers that are not known. -/
import Derived.Test.YtjhlfolgadaliaaDoorSXi
import Derived.Laws.BitsLemmas
import Derived.KernelRfl
namespace Go.Proofs.YtjhlfolgadaliaaDoor.AI
open Go Go.RowKit 
set_option linter.unusedVariables false
set_option linter.unusedSimpArgs false
noncomputable def rU (w : Int) : Bool := tst (0 ≤ w ∧ w < 18446744073709551616)
noncomputable def w17 (ar : List Value) : Option (Bool × Value) := match ar with | [.int .u64 w] => some (rU w, .int .i64 ((nextZ (turn w.toNat) 0 : Nat) : Int)) | _ => none
noncomputable def w18 (ar : List Value) : Option (Bool × Value) := match ar with | [.int .u64 w, .int .i64 f] => some (rU w, .int .i64 ((nextZ w.toNat f : Nat) : Int)) | _ => none
noncomputable def w23 (ar : List Value) : Option (Bool × Value) := match ar with | [.int .u64 w] => some (rU w, .int .i64 ((cnt w.toNat 64 : Nat) : Int)) | _ => none
noncomputable def w21 (ar : List Value) : Option (Bool × Value) := match ar with | [.int .u64 w, .int .i64 a, .int .i64 n] => some (rU w, .int .u64 (FieldM w a n)) | _ => none
noncomputable def w22 (ar : List Value) : Option (Bool × Value) := match ar with | [.int .u64 w, .int .i64 a, .int .i64 n, .int .u64 v] => some (rU w && rU v, .int .u64 (WithM w a n v)) | _ => none
noncomputable def W2 : TabF := andG 17 w17 (andG 18 w18 (andG 25 w18 (andG 23 w23 (andG 24 w23 (andG 21 w21 (andG 22 w22 noW))))))
noncomputable abbrev w2A (W : TabF) (F : FuncId → List Value → Option Value) : CallA := mixA [11] (quietA Tryd.prog (glT tabs) (regF Tryd.prog (glT tabs)) 60 (Nat.beq 11)) (mixA [17, 18, 21, 22, 23, 24, 25] (wtA (glT tabs) W) (sumA F))
noncomputable abbrev w2K {R : Type} (W : TabF) (F : FuncId → List Value → Option Value) : CK R := mixK [11] (toK (quietA Tryd.prog (glT tabs) (regF Tryd.prog (glT tabs)) 60 (Nat.beq 11))) (mixK [17, 18, 21, 22, 23, 24, 25] (wtK (glT tabs) W) (toK (sumA F)))
noncomputable abbrev lkD {R : Type} (r : Nat) (ts : List Nat) (pre post : List Value) (n : Nat) (x : XA) : LoopK R := lkQ r ts (fun vs h s => some (tst (vs = pre ∧ h = hT tabs ∧ s = n), x, stT ts post n (hT tabs))) noLK
def bodyRunK (P : Program) (gl : Nat → Option Nat) (call : CallA) (callK : CK (XA × List Value × AH × Nat)) (LK : LoopK (XA × List Value × AH × Nat)) (c : Code) (σ : St) (ts : List Nat) : Option (XA × List Value × AH × Nat) := codeG P gl call callK LK c σ (finT ts)
theorem rU_of (n : Nat) (h : n < 2 ^ 64) : rU (n : Int) = true := tst_of ⟨by omega, by omega⟩
theorem of_rU {w : Int} (h : rU w = true) : ∃ n : Nat, w = n ∧ n < 2 ^ 64 := by
  obtain ⟨h0, h1⟩ := of_tst h
  exact ⟨w.toNat, by omega, by omega⟩
theorem bodyRunK_some {P : Program} {gl : Nat → Option Nat} {call : CallA} {callK : CK (XA × List Value × AH × Nat)} (hK : CKok call callK) {LO : LoopA} {LK : LoopK (XA × List Value × AH × Nat)} (hL : LKok LO LK) {c : Code} {σ : St} {ts : List Nat} {y : XA} {vs : List Value} {h : AH} {n : Nat} (hr : bodyRunK P gl call callK LK c σ ts = some (y, vs, h, n)) :
    ∃ σ1, codeB P gl (regF P gl) call LO c σ = some (y, σ1) ∧ picks ts σ1.T = some vs ∧ σ1.h = h ∧ σ1.n = n ∧ σ1.ds = [] := by
  refine bodyRun_some (LK := toLK LO) (toLK_ok LO) ?_
  unfold bodyRunK at hr
  rw [codeG_eq hK hL] at hr
  unfold bodyRun
  rw [codeBK_eq (toK_ok call) (toLK_ok LO)]
  exact hr
/-- A loop that changes temporaries alone; calls by tables under tests. -/
theorem loop_plainK {P : Program} {gl : Nat → Option Nat} (hm : P.follows .mixedOrders = true) {call : CallA} (hcall : CallOK P gl call) {callK : CK (XA × List Value × AH × Nat)} (hK : CKok call callK) {hE : AH} {LO : LoopA} {LK : LoopK (XA × List Value × AH × Nat)} (hL : LKok LO LK) {c : Code} (hl : LoopsOK P gl hE LO (loopsOf c)) (ts : List Nat) {X : Type} (enc : X → List Value) (m : X → Nat) (out : X → XA × X) {n : Nat} {h : AH}
    (step : ∀ x, ∃ y x', bodyRunK P gl call callK LK c (stT ts (enc x) n h) ts = some (y, enc x', h, n) ∧ ((y = .normal ∧ m x' < m x ∧ out x' = out x) ∨ (y ≠ .normal ∧ out x = (y, x')))) :
    ∀ x, LoopTri P gl hE c (stT ts (enc x) n h) (out x).1 (stT ts (enc (out x).2) n h) := by
  refine loop_rule (regF_ok hm) hcall hl (fun x => stT ts (enc x) n h) m (fun x => ((out x).1, stT ts (enc (out x).2) n h)) fun x => ?_
  obtain ⟨y, x', h1, h2⟩ := step x
  obtain ⟨σ1, g1, g2, g3, g4, g5⟩ := bodyRunK_some hK hL h1
  have cv : Covers gl hE (stT ts (enc x') n h) σ1 := covers_T g4 (picks_mkT g2) g3.symm g5.symm
  refine ⟨y, σ1, g1, ?_⟩
  rcases h2 with ⟨rfl, k1, k2⟩ | ⟨k1, k2⟩
  · exact .inl ⟨rfl, x', k1, by rw [k2], cv⟩
  · exact .inr ⟨k1, by rw [k2], by rw [k2]; exact cv⟩
def allI : Int := if Bool.false = Bool.true then -1 else if Bool.false = Bool.true then 2 ^ 63 - 1 else 2 ^ 64 - 1
theorem allI_eq : allI = ((18446744073709551615 : Nat) : Int) := by decide
theorem notI (w : Nat) (hw : w < 2 ^ 64) : bXor allI w = ((turn w : Nat) : Int) := by
  rw [allI_eq, xor_nat _ _ (by decide) hw]
  congr 1
  refine Nat.eq_of_testBit_eq fun i => ?_
  rw [Nat.testBit_xor, turn_bit w i hw, show 18446744073709551615 = 2 ^ 64 - 1 from rfl, Nat.testBit_two_pow_sub_one]
  by_cases h : i < 64
  · rw [decide_eq_true h]; simp
  · rw [decide_eq_false h, Nat.testBit_lt_two_pow (Nat.lt_of_lt_of_le hw (Nat.pow_le_pow_right (by omega) (by omega)))]; rfl
theorem turn_lt (w : Nat) : turn w < 2 ^ 64 := by unfold turn; omega
theorem nextZ_zero (w : Nat) (hw : w < 2 ^ 64) : nextZ w 0 = Lib.ctz 64 w := isNext_unique (nextZ_is w 0 hw) (ctz_next w hw)
theorem zsT : tst (List.map (fun z => Value.int IntKind.u8 z) zs0 = List.map (fun z => Value.int IntKind.u8 z) zs0) = true := tst_of rfl
theorem t17 (w : Int) : RT W1 F4 noLK Tryd.f17 [.int .u64 w] = bif tst (0 ≤ IntKind.wrap IntKind.u64 (↑(BitVec.toNat (BitVec.ofInt 64 (if Bool.false = Bool.true then -1 else if Bool.false = Bool.true then 2 ^ 63 - 1 else 2 ^ 64 - 1) ^^^ BitVec.ofInt 64 w)) : Int) ∧ IntKind.wrap IntKind.u64 (↑(BitVec.toNat (BitVec.ofInt 64 (if Bool.false = Bool.true then -1 else if Bool.false = Bool.true then 2 ^ 63 - 1 else 2 ^ 64 - 1) ^^^ BitVec.ofInt 64 w)) : Int) < 18446744073709551616) && tst (List.map (fun z => Value.int IntKind.u8 z) zs0 = List.map (fun z => Value.int IntKind.u8 z) zs0) then some (Value.int IntKind.i64 (↑(Lib.ctz 64 (Int.toNat (IntKind.wrap IntKind.u64 (↑(BitVec.toNat (BitVec.ofInt 64 (if Bool.false = Bool.true then -1 else if Bool.false = Bool.true then 2 ^ 63 - 1 else 2 ^ 64 - 1) ^^^ BitVec.ofInt 64 w)) : Int)))) : Int)) else none := by kernel_rfl
theorem t18 (w f : Int) : RT W1 F4 noLK Tryd.f18 [.int .u64 w, .int .i64 f] = bif decide (f ≥ 64) then some (Value.int IntKind.i64 64) else bif tst (0 ≤ IntKind.wrap IntKind.u64 (↑(BitVec.toNat (BitVec.ofInt 64 w &&& ~~~BitVec.ofInt 64 (maskM (if 0 > f then 0 else f)))) : Int) ∧ IntKind.wrap IntKind.u64 (↑(BitVec.toNat (BitVec.ofInt 64 w &&& ~~~BitVec.ofInt 64 (maskM (if 0 > f then 0 else f)))) : Int) < 18446744073709551616) && tst (List.map (fun z => Value.int IntKind.u8 z) zs0 = List.map (fun z => Value.int IntKind.u8 z) zs0) then some (Value.int IntKind.i64 (↑(Lib.ctz 64 (Int.toNat (IntKind.wrap IntKind.u64 (↑(BitVec.toNat (BitVec.ofInt 64 w &&& ~~~BitVec.ofInt 64 (maskM (if 0 > f then 0 else f)))) : Int)))) : Int)) else none := by kernel_rfl
theorem first_ok (n : Nat) (hn : n < 2 ^ 64) (w : World) (hw : ∀ x ∈ tabs, Holds w x) : Calls Tryd.prog 17 ⟨[.int .u64 (n : Int)]⟩ w fun e w' => e = .returned (.int .i64 ((nextZ (turn n) 0 : Nat) : Int)) ∧ Below w.heap.size w w' := by
  refine lawG hmix (wA_ok W1_ok F4_ok) wK_ok noLK_ok Tryd.func17 rfl (by kernel_rfl) noLO_ok ?_ rfl w hw _ (plainV_list rfl)
  have e : IntKind.wrap IntKind.u64 (↑(BitVec.toNat (BitVec.ofInt 64 (if Bool.false = Bool.true then -1 else if Bool.false = Bool.true then 2 ^ 63 - 1 else 2 ^ 64 - 1) ^^^ BitVec.ofInt 64 (n : Int))) : Int) = ((turn n : Nat) : Int) := notI n hn
  have hl := turn_lt n
  refine (t17 _).trans ?_
  rw [e, zsT, tst_of ⟨by omega, by omega⟩, nextZ_zero _ hl, Int.toNat_natCast]; rfl
theorem next_ok (n : Nat) (hn : n < 2 ^ 64) (f : Int) (w : World) (hw : ∀ x ∈ tabs, Holds w x) : Calls Tryd.prog 18 ⟨[.int .u64 (n : Int), .int .i64 f]⟩ w fun e w' => e = .returned (.int .i64 ((nextZ n f : Nat) : Int)) ∧ Below w.heap.size w w' := by
  refine lawG hmix (wA_ok W1_ok F4_ok) wK_ok noLK_ok Tryd.func18 rfl (by kernel_rfl) noLO_ok ?_ rfl w hw _ (plainV_list rfl)
  refine (t18 _ _).trans ?_
  by_cases hf : f ≥ 64
  · rw [decide_eq_true hf]
    have : nextZ n f = 64 := by unfold nextZ nextN; rw [if_pos (by omega)]
    rw [this]; rfl
  · rw [decide_eq_false hf]
    have hm : (if 0 > f then 0 else f) = ((f.toNat : Nat) : Int) := by
      by_cases h : 0 > f
      · rw [if_pos h]; omega
      · rw [if_neg h]; omega
    have hk := mask_lt f.toNat (by omega)
    have e : IntKind.wrap IntKind.u64 (↑(BitVec.toNat (BitVec.ofInt 64 (n : Int) &&& ~~~BitVec.ofInt 64 ((2 ^ f.toNat - 1 : Nat) : Int))) : Int) = ((n &&& turn (2 ^ f.toNat - 1) : Nat) : Int) := andNot_nat _ _ hn hk
    have hl : n &&& turn (2 ^ f.toNat - 1) < 2 ^ 64 := Nat.lt_of_le_of_lt Nat.and_le_left hn
    have hz : nextZ n f = Lib.ctz 64 (n &&& turn (2 ^ f.toNat - 1)) := by unfold nextZ nextN; rw [if_neg (by omega)]
    rw [hm, maskM_nat _ (by omega), e, zsT, tst_of ⟨by omega, by omega⟩, hz, Int.toNat_natCast]; rfl
theorem t41 (w : Int) : R Tryd.prog F4 Tryd.f41 [.int .u64 w] = some (.int .i64 (onesI w)) := by kernel_rfl
theorem t23 (w : Int) : R Tryd.prog F5 Tryd.f23 [.int .u64 w] = some (.int .i64 (onesI w)) := by kernel_rfl
theorem u1_some {f : Int → Option Value} {ar : List Value} {v : Value} (h : u1 f ar = some v) : ∃ w, ar = [.int .u64 w] ∧ f w = some v := by
  unfold u1 at h
  split at h
  · exact ⟨_, rfl, h⟩
  · cases h
theorem F5_ok : TabOK Tryd.prog F5 := entP Tryd.func41 rfl (by kernel_rfl) F4_ok (fun ar v h => by obtain ⟨w, rfl, h⟩ := u1_some h; cases h; exact ⟨rfl, t41 w, rfl⟩) F4_ok
theorem onesG_ok (n : Nat) (hn : n < 2 ^ 64) (w : World) : Calls Tryd.prog 23 ⟨[.int .u64 (n : Int)]⟩ w fun e w' => e = .returned (.int .i64 ((cnt n 64 : Nat) : Int)) ∧ Below w.heap.size w w' := by
  rw [← onesI_eq n hn]
  exact plain_callsV regOK (tab_ok F5_ok) Tryd.func23 rfl (by kernel_rfl) (t23 n) rfl rfl w
theorem W2_ok : TabW Tryd.prog W2 := by
  have c17 : ∀ ar v, w17 ar = some (true, v) → ar.all plainV = true ∧ plainV v = true ∧ ∀ (w : World), (∀ x ∈ tabs, Holds w x) → Calls Tryd.prog 17 ⟨ar⟩ w fun e w' => e = .returned v ∧ Below w.heap.size w w' := by
    intro ar v h
    unfold w17 at h
    split at h
    · simp only [Option.some.injEq, Prod.mk.injEq] at h
      obtain ⟨ht, rfl⟩ := h
      obtain ⟨n, rfl, hn⟩ := of_rU ht
      exact ⟨rfl, rfl, fun w hw => by rw [Int.toNat_natCast]; exact first_ok n hn w hw⟩
    · cases h
  have c18 : ∀ ar v, w18 ar = some (true, v) → ar.all plainV = true ∧ plainV v = true ∧ ∀ (w : World), (∀ x ∈ tabs, Holds w x) → Calls Tryd.prog 18 ⟨ar⟩ w fun e w' => e = .returned v ∧ Below w.heap.size w w' := by
    intro ar v h
    unfold w18 at h
    split at h
    · simp only [Option.some.injEq, Prod.mk.injEq] at h
      obtain ⟨ht, rfl⟩ := h
      obtain ⟨n, rfl, hn⟩ := of_rU ht
      exact ⟨rfl, rfl, fun w hw => by rw [Int.toNat_natCast]; exact next_ok n hn _ w hw⟩
    · cases h
  have c25 : ∀ ar v, w18 ar = some (true, v) → ar.all plainV = true ∧ plainV v = true ∧ ∀ (w : World), (∀ x ∈ tabs, Holds w x) → Calls Tryd.prog 25 ⟨ar⟩ w fun e w' => e = .returned v ∧ Below w.heap.size w w' := by
    intro ar v h
    unfold w18 at h
    split at h
    · simp only [Option.some.injEq, Prod.mk.injEq] at h
      obtain ⟨ht, rfl⟩ := h
      obtain ⟨n, rfl, hn⟩ := of_rU ht
      exact ⟨rfl, rfl, fun w _ => by rw [Int.toNat_natCast]; exact nextR_ok n hn _ w⟩
    · cases h
  have c23 : ∀ ar v, w23 ar = some (true, v) → ar.all plainV = true ∧ plainV v = true ∧ ∀ (w : World), (∀ x ∈ tabs, Holds w x) → Calls Tryd.prog 23 ⟨ar⟩ w fun e w' => e = .returned v ∧ Below w.heap.size w w' := by
    intro ar v h
    unfold w23 at h
    split at h
    · simp only [Option.some.injEq, Prod.mk.injEq] at h
      obtain ⟨ht, rfl⟩ := h
      obtain ⟨n, rfl, hn⟩ := of_rU ht
      exact ⟨rfl, rfl, fun w _ => by rw [Int.toNat_natCast]; exact onesG_ok n hn w⟩
    · cases h
  have c24 : ∀ ar v, w23 ar = some (true, v) → ar.all plainV = true ∧ plainV v = true ∧ ∀ (w : World), (∀ x ∈ tabs, Holds w x) → Calls Tryd.prog 24 ⟨ar⟩ w fun e w' => e = .returned v ∧ Below w.heap.size w w' := by
    intro ar v h
    unfold w23 at h
    split at h
    · simp only [Option.some.injEq, Prod.mk.injEq] at h
      obtain ⟨ht, rfl⟩ := h
      obtain ⟨n, rfl, hn⟩ := of_rU ht
      exact ⟨rfl, rfl, fun w _ => by rw [Int.toNat_natCast]; exact ones_ok n hn w⟩
    · cases h
  have c21 : ∀ ar v, w21 ar = some (true, v) → ar.all plainV = true ∧ plainV v = true ∧ ∀ (w : World), (∀ x ∈ tabs, Holds w x) → Calls Tryd.prog 21 ⟨ar⟩ w fun e w' => e = .returned v ∧ Below w.heap.size w w' := by
    intro ar v h
    unfold w21 at h
    split at h
    · simp only [Option.some.injEq, Prod.mk.injEq] at h
      obtain ⟨ht, rfl⟩ := h
      obtain ⟨n, rfl, hn⟩ := of_rU ht
      exact ⟨rfl, rfl, fun w _ => fieldR_ok n _ _ hn w⟩
    · cases h
  have c22 : ∀ ar v, w22 ar = some (true, v) → ar.all plainV = true ∧ plainV v = true ∧ ∀ (w : World), (∀ x ∈ tabs, Holds w x) → Calls Tryd.prog 22 ⟨ar⟩ w fun e w' => e = .returned v ∧ Below w.heap.size w w' := by
    intro ar v h
    unfold w22 at h
    split at h
    · simp only [Option.some.injEq, Prod.mk.injEq, Bool.and_eq_true] at h
      obtain ⟨⟨ht, ht2⟩, rfl⟩ := h
      obtain ⟨n, rfl, hn⟩ := of_rU ht
      obtain ⟨m, rfl, hm⟩ := of_rU ht2
      exact ⟨rfl, rfl, fun w _ => withR_ok n m _ _ hn hm w⟩
    · cases h
  exact andW_ok Tryd.func17 rfl (by kernel_rfl) c17 <| andW_ok Tryd.func18 rfl (by kernel_rfl) c18 <| andW_ok Tryd.func25 rfl (by kernel_rfl) c25 <| andW_ok Tryd.func23 rfl (by kernel_rfl) c23 <|
    andW_ok Tryd.func24 rfl (by kernel_rfl) c24 <| andW_ok Tryd.func21 rfl (by kernel_rfl) c21 <| andW_ok Tryd.func22 rfl (by kernel_rfl) c22 noW_ok
theorem w2A_ok : CallOK Tryd.prog (glT tabs) (w2A W2 F4) := mixA_ok (quietA_ok (regF_ok hmix) 60 _) (mixA_ok (wtA_ok _ W2_ok) (tab_ok F4_ok))
theorem w2K_ok {R : Type} : CKok (R := R) (w2A W2 F4) (w2K W2 F4) := mixK_ok (toK_ok _) (mixK_ok (wtK_ok _ _) (toK_ok _))
theorem t4 (w a n v : Int) : runT Tryd.prog tabs (w2A W2 F4) (w2K W2 F4) noLK Tryd.f4 [.int .u64 w, .int .i64 a, .int .i64 n, .int .u64 v] = bif rU w && tst (List.map (fun z => Value.int IntKind.u8 z) zs0 = List.map (fun z => Value.int IntKind.u8 z) zs0) then bif FieldM w a n == FieldM w a n then bif rU w && rU v && tst (List.map (fun z => Value.int IntKind.u8 z) zs0 = List.map (fun z => Value.int IntKind.u8 z) zs0) then bif WithM w a n v == WithM w a n v then bif rU w && tst (List.map (fun z => Value.int IntKind.u8 z) zs0 = List.map (fun z => Value.int IntKind.u8 z) zs0) then bif rU w && tst (List.map (fun z => Value.int IntKind.u8 z) zs0 = List.map (fun z => Value.int IntKind.u8 z) zs0) then bif (↑(cnt (Int.toNat w) 64) : Int) == (↑(cnt (Int.toNat w) 64) : Int) then bif rU w && tst (List.map (fun z => Value.int IntKind.u8 z) zs0 = List.map (fun z => Value.int IntKind.u8 z) zs0) then bif rU (IntKind.wrap IntKind.u64 (↑(BitVec.toNat (BitVec.ofInt 64 (if Bool.false = Bool.true then -1 else if Bool.false = Bool.true then 2 ^ 63 - 1 else 2 ^ 64 - 1) ^^^ BitVec.ofInt 64 w)) : Int)) && tst (List.map (fun z => Value.int IntKind.u8 z) zs0 = List.map (fun z => Value.int IntKind.u8 z) zs0) then bif (↑(nextZ (turn (Int.toNat w)) 0) : Int) == (↑(nextZ (Int.toNat (IntKind.wrap IntKind.u64 (↑(BitVec.toNat (BitVec.ofInt 64 (if Bool.false = Bool.true then -1 else if Bool.false = Bool.true then 2 ^ 63 - 1 else 2 ^ 64 - 1) ^^^ BitVec.ofInt 64 w)) : Int))) 0) : Int) then bif rU w && tst (List.map (fun z => Value.int IntKind.u8 z) zs0 = List.map (fun z => Value.int IntKind.u8 z) zs0) then bif rU w && tst (List.map (fun z => Value.int IntKind.u8 z) zs0 = List.map (fun z => Value.int IntKind.u8 z) zs0) then bif (↑(nextZ (Int.toNat w) a) : Int) == (↑(nextZ (Int.toNat w) a) : Int) then some (Value.bool Bool.true) else some (Value.bool Bool.false) else none else none else some (Value.bool Bool.false) else none else none else some (Value.bool Bool.false) else none else none else some (Value.bool Bool.false) else none else some (Value.bool Bool.false) else none := by kernel_rfl
theorem maps_walk (a b c d : Int) (w : World) (h0 : (Lit.int .u64 a).wf = true) (_ : (Lit.int .i64 b).wf = true) (_ : (Lit.int .i64 c).wf = true) (h3 : (Lit.int .u64 d).wf = true) (hw : ∀ x ∈ tabs, Holds w x) :
    Calls Tryd.prog 4 #[.int .u64 a, .int .i64 b, .int .i64 c, .int .u64 d] w fun e w' => e = .returned (.bool true) ∧ Below w.heap.size w w' := by
  obtain ⟨n, rfl, hn⟩ := nat_of_wf h0
  obtain ⟨m, rfl, hm⟩ := nat_of_wf h3
  refine lawG hmix w2A_ok w2K_ok noLK_ok Tryd.func4 rfl (by kernel_rfl) noLO_ok ?_ rfl w hw _ (plainV_list rfl)
  have e : IntKind.wrap IntKind.u64 (↑(BitVec.toNat (BitVec.ofInt 64 (if Bool.false = Bool.true then -1 else if Bool.false = Bool.true then 2 ^ 63 - 1 else 2 ^ 64 - 1) ^^^ BitVec.ofInt 64 (n : Int))) : Int) = ((turn n : Nat) : Int) := notI n hn
  refine (t4 _ _ _ _).trans ?_
  rw [e, zsT, rU_of n hn, rU_of m hm, rU_of _ (turn_lt n)]
  simp only [beq_self_eq_true, Bool.and_self, cond_true, Int.toNat_natCast]
theorem t9 (w : Int) (c d : Int) (pre : List Value) : runT Tryd.prog tabs (w2A W2 F4) (w2K W2 F4) (lkD 5 [0, 3, 4] pre [.int .u64 w, .int .i64 c, .int .i64 d] 46 (.exit 0)) Tryd.f9 [.int .u64 w] = bif rU w && tst (List.map (fun z => Value.int IntKind.u8 z) zs0 = List.map (fun z => Value.int IntKind.u8 z) zs0) then bif tst ([Value.int IntKind.u64 w, Value.int IntKind.i64 0, Value.int IntKind.i64 (↑(nextZ (Int.toNat w) 0) : Int)] = pre ∧ hT tabs = hT tabs ∧ 46 = 46) then bif rU w && tst (List.map (fun z => Value.int IntKind.u8 z) zs0 = List.map (fun z => Value.int IntKind.u8 z) zs0) then bif c == (↑(cnt (Int.toNat w) 64) : Int) then bif rU w && tst (List.map (fun z => Value.int IntKind.u8 z) zs0 = List.map (fun z => Value.int IntKind.u8 z) zs0) then bif rU (IntKind.wrap IntKind.u64 (↑(BitVec.toNat (BitVec.ofInt 64 (if Bool.false = Bool.true then -1 else if Bool.false = Bool.true then 2 ^ 63 - 1 else 2 ^ 64 - 1) ^^^ BitVec.ofInt 64 w)) : Int)) && tst (List.map (fun z => Value.int IntKind.u8 z) zs0 = List.map (fun z => Value.int IntKind.u8 z) zs0) then bif IntKind.wrap IntKind.i64 ((↑(cnt (Int.toNat w) 64) : Int) + (↑(cnt (Int.toNat (IntKind.wrap IntKind.u64 (↑(BitVec.toNat (BitVec.ofInt 64 (if Bool.false = Bool.true then -1 else if Bool.false = Bool.true then 2 ^ 63 - 1 else 2 ^ 64 - 1) ^^^ BitVec.ofInt 64 w)) : Int))) 64) : Int)) == 64 then bif rU w && tst (List.map (fun z => Value.int IntKind.u8 z) zs0 = List.map (fun z => Value.int IntKind.u8 z) zs0) then bif rU (IntKind.wrap IntKind.u64 (↑(BitVec.toNat (BitVec.ofInt 64 (if Bool.false = Bool.true then -1 else if Bool.false = Bool.true then 2 ^ 63 - 1 else 2 ^ 64 - 1) ^^^ BitVec.ofInt 64 w)) : Int)) && tst (List.map (fun z => Value.int IntKind.u8 z) zs0 = List.map (fun z => Value.int IntKind.u8 z) zs0) then bif (↑(nextZ (turn (Int.toNat w)) 0) : Int) == (↑(nextZ (Int.toNat (IntKind.wrap IntKind.u64 (↑(BitVec.toNat (BitVec.ofInt 64 (if Bool.false = Bool.true then -1 else if Bool.false = Bool.true then 2 ^ 63 - 1 else 2 ^ 64 - 1) ^^^ BitVec.ofInt 64 w)) : Int))) 0) : Int) then some (Value.bool Bool.true) else some (Value.bool Bool.false) else none else none else some (Value.bool Bool.false) else none else none else some (Value.bool Bool.false) else none else none else none := by kernel_rfl
theorem tB9 (w n a : Int) : bodyRunK Tryd.prog (glT tabs) (w2A W2 F4) (w2K W2 F4) noLK (loopN Tryd.f9 0) (stT [0, 3, 4] [.int .u64 w, .int .i64 n, .int .i64 a] 46 (hT tabs)) [0, 3, 4] = bif decide (a < 64) then bif decide (IntKind.wrap IntKind.i64 (n + 1) > 64) then some (XA.ret, [Value.int IntKind.u64 w, Value.int IntKind.i64 (IntKind.wrap IntKind.i64 (n + 1)), Value.int IntKind.i64 a], hT tabs, 46) else bif FieldM w a 1 != 1 then some (XA.ret, [Value.int IntKind.u64 w, Value.int IntKind.i64 (IntKind.wrap IntKind.i64 (n + 1)), Value.int IntKind.i64 a], hT tabs, 46) else bif rU w && tst (List.map (fun z => Value.int IntKind.u8 z) zs0 = List.map (fun z => Value.int IntKind.u8 z) zs0) then some (XA.normal, [Value.int IntKind.u64 w, Value.int IntKind.i64 (IntKind.wrap IntKind.i64 (n + 1)), Value.int IntKind.i64 (↑(nextZ (Int.toNat w) (IntKind.wrap IntKind.i64 (a + 1))) : Int)], hT tabs, 46) else none else some (XA.exit 0, [Value.int IntKind.u64 w, Value.int IntKind.i64 n, Value.int IntKind.i64 a], hT tabs, 46) := by kernel_rfl
noncomputable abbrev loD (r : Nat) (ts : List Nat) (pre post : List Value) (n : Nat) (x : XA) : LoopA := loQ r ts (fun vs h s => some (tst (vs = pre ∧ h = hT tabs ∧ s = n), x, stT ts post n (hT tabs))) noLO
theorem loD_ok {P : Program} {gl : Nat → Option Nat} {hE : AH} {c : Code} {l : List Code} (hl : l = [c]) {r : Nat} {ts : List Nat} {pre post : List Value} {n : Nat} {x : XA} (h : LoopTri P gl hE c (stT ts pre n (hT tabs)) x (stT ts post n (hT tabs))) : LoopsOK P gl hE (loD r ts pre post n x) l := by
  refine loQ_ok (fun c' hc _ σ vs x' σ' hd hp h' => ?_) noLO_ok
  rw [hl, List.mem_singleton] at hc
  subst hc
  simp only [Option.some.injEq, Prod.mk.injEq] at h'
  obtain ⟨ht, rfl, rfl⟩ := h'
  obtain ⟨rfl, hh, hs⟩ := of_tst ht
  exact h.enter (covers_T hs (picks_mkT hp) hh.symm hd.symm)
theorem cnt_next (w : Nat) (hw : w < 2 ^ 64) (a : Nat) (ha : a ≤ 64) : cnt w (nextZ w (a : Int)) = cnt w a ∧ a ≤ nextZ w (a : Int) := by
  obtain ⟨h1, h2, h3⟩ := nextZ_is w (a : Int) hw
  rw [Int.toNat_natCast] at h2 h3
  have hle : a ≤ nextZ w (a : Int) := by
    by_cases h : nextZ w (a : Int) < 64
    · exact (h3 h).1
    · omega
  refine ⟨?_, hle⟩
  have := cnt_skip w a (nextZ w (a : Int) - a) fun i hi hl => h2 i hi (by omega)
  rwa [show a + (nextZ w (a : Int) - a) = nextZ w (a : Int) by omega] at this
theorem lp9 (w : Nat) (hw : w < 2 ^ 64) : LoopTri Tryd.prog (glT tabs) (hT tabs) (loopN Tryd.f9 0) (stT [0, 3, 4] [.int .u64 (w : Int), .int .i64 0, .int .i64 ((nextZ w 0 : Nat) : Int)] 46 (hT tabs)) (.exit 0) (stT [0, 3, 4] [.int .u64 (w : Int), .int .i64 ((cnt w 64 : Nat) : Int), .int .i64 64] 46 (hT tabs)) := by
  have h00 := cnt_next w hw 0 (by decide)
  have e0 : nextZ w ((0 : Nat) : Int) = nextZ w 0 := rfl
  rw [e0] at h00
  have hb0 := nextZ_is w 0 hw
  have := loop_plainK (n := 46) (h := hT tabs) hmix w2A_ok w2K_ok noLK_ok (c := loopN Tryd.f9 0) noLO_ok [0, 3, 4] (X := {a : Nat // a ≤ 64 ∧ (a < 64 → w.testBit a = true)}) (fun a => [.int .u64 (w : Int), .int .i64 ((cnt w a.1 : Nat) : Int), .int .i64 ((a.1 : Nat) : Int)]) (fun a => 64 - a.1) (fun a => (.exit 0, ⟨64, Nat.le_refl _, fun h => absurd h (by decide)⟩)) (hE := hT tabs) ?_ ⟨nextZ w 0, hb0.1, fun h => (hb0.2.2 h).2⟩
  · dsimp only at this
    rw [h00.1] at this
    exact this
  · rintro ⟨a, ha, hb⟩
    by_cases h : a < 64
    · have hc := cnt_le w a
      have hc2 : cnt w (a + 1) = cnt w a + 1 := by rw [testBit_cnt, hb h]; rfl
      obtain ⟨k1, k2⟩ := cnt_next w hw (a + 1) h
      have hbn := nextZ_is w ((a + 1 : Nat) : Int) hw
      have hF : FieldM (w : Int) (a : Int) 1 = 1 := by
        rw [show (1 : Int) = ((1 : Nat) : Int) from rfl, Field_nat w a 1 hw (by omega)]
        congr 1
        refine Nat.eq_of_testBit_eq fun i => ?_
        have h1b : (1 : Nat).testBit i = decide (0 = i) := bit_pow 0 i
        rw [fieldN_bit, h1b]
        by_cases hi : i = 0
        · subst hi; rw [Nat.add_zero, hb h]; rfl
        · rw [decide_eq_false (show ¬ i < 1 by omega), Bool.and_false, decide_eq_false (by omega)]
      refine ⟨.normal, ⟨nextZ w ((a + 1 : Nat) : Int), hbn.1, fun hl => (hbn.2.2 hl).2⟩, (tB9 _ _ _).trans ?_, .inl ⟨rfl, by dsimp only; omega, rfl⟩⟩
      dsimp only
      rw [decide_eq_true (show (a : Int) < 64 by omega), i64s (cnt w a) (by omega), i64s a (by omega), decide_eq_false (show ¬ ((cnt w a + 1 : Nat) : Int) > 64 by omega), hF, bne_self, rU_of w hw, zsT, Int.toNat_natCast, k1, hc2]
      rfl
    · obtain rfl : a = 64 := by omega
      exact ⟨.exit 0, ⟨64, Nat.le_refl _, fun h => absurd h (by decide)⟩, tB9 _ _ _, .inr ⟨by simp, rfl⟩⟩
theorem counts_walk (a : Int) (w : World) (h0 : (Lit.int .u64 a).wf = true) (hw : ∀ x ∈ tabs, Holds w x) :
    Calls Tryd.prog 9 #[.int .u64 a] w fun e w' => e = .returned (.bool true) ∧ Below w.heap.size w w' := by
  obtain ⟨n, rfl, hn⟩ := nat_of_wf h0
  refine lawG hmix w2A_ok w2K_ok (lkQ_ok noLK_ok) Tryd.func9 rfl (by kernel_rfl) (loD_ok (r := 5) (by kernel_rfl) (lp9 n hn)) ?_ rfl w hw _ (plainV_list rfl)
  have e : IntKind.wrap IntKind.u64 (↑(BitVec.toNat (BitVec.ofInt 64 (if Bool.false = Bool.true then -1 else if Bool.false = Bool.true then 2 ^ 63 - 1 else 2 ^ 64 - 1) ^^^ BitVec.ofInt 64 (n : Int))) : Int) = ((turn n : Nat) : Int) := notI n hn
  have hs := cnt_turn n hn 64 (Nat.le_refl _)
  have e2 : IntKind.i64.wrap (((cnt n 64 : Nat) : Int) + ((cnt (turn n) 64 : Nat) : Int)) = 64 := by rw [i64w]; omega
  refine (t9 _ _ _ _).trans ?_
  rw [e, zsT, rU_of n hn, rU_of _ (turn_lt n), Int.toNat_natCast, Int.toNat_natCast, e2, tst_of ⟨rfl, rfl, rfl⟩]
  simp only [beq_self_eq_true, Bool.and_self, cond_true]
end Go.Proofs.YtjhlfolgadaliaaDoor.AI
