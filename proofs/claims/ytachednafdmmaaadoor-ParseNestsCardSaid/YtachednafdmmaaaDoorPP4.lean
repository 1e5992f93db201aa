/- The parser. -/
import Derived.Test.YtachednafdmmaaaDoorPP3
import Derived.KernelRfl
namespace Go.Proofs.YtachednafdmmaaaDoor.AI
open Go Go.RowKit 
set_option linter.unusedVariables false
set_option linter.unusedSimpArgs false
noncomputable abbrev nA (F : TabF) : CallA := sumQ (glV Lx.lq) Lx.lq (fun _ => 2) F
noncomputable abbrev nK {R : Type} (F : TabF) : CK R := sumQK (glV Lx.lq) Lx.lq (fun _ => 2) F
theorem nA_ok {F : TabF} (hF : TabQ Tryd.prog Lx.lq F) : CallOK Tryd.prog (glV Lx.lq) (nA F) := sumQ_ok Lx.lq_g _ hF
theorem nK_ok {R : Type} (F : TabF) : CKok (R := R) (nA F) (nK F) := sumQK_ok _ _ _ _
noncomputable abbrev nB (k : Nat) (ts : List Nat) (vs : List Value) : Option (XA × List Value × AH × Nat) := bodyRunK Tryd.prog (glV Lx.lq) (nA noG) (nK noG) noLK (loopN Tryd.f3 k) (stT ts vs 119 (hV Lx.lq)) ts
abbrev ts0 : List Nat := [0, 5, 6, 7, 8, 9, 10]
abbrev ts1 : List Nat := [0, 13, 14, 15, 16, 17]
abbrev ts2 : List Nat := [0, 13, 14, 20, 21, 22, 23]
def fsC : Code → Code
  | .seq a _ => a
  | _ => .skip
def snC : Code → Code
  | .seq _ b => b
  | _ => .skip
noncomputable def b3 : Code := bodyOf Tryd.f3
noncomputable def x3 : Code := snC (snC (snC (snC b3)))
noncomputable def pre3 : Code := .seq (fsC b3) (.seq (fsC (snC b3)) (.seq (fsC (snC (snC b3))) (.seq (fsC (snC (snC (snC b3)))) (fsC (fsC x3)))))
noncomputable def post3 : Code := .seq (snC (fsC x3)) (snC x3)
set_option maxRecDepth 100000 in
theorem b3_eq : bodyOf Tryd.f3 = .seq (fsC b3) (.seq (fsC (snC b3)) (.seq (fsC (snC (snC b3))) (.seq (fsC (snC (snC (snC b3)))) (.seq (.seq (fsC (fsC x3)) (snC (fsC x3))) (snC x3))))) := by kernel_rfl
theorem codeG_split {R : Type} {P : Program} {gl : Nat → Option Nat} {call : CallA} {callK : CK R} {LK : LoopK R} (c0 c1 c3 c5 r6 b0 rest : Code) (σ : St) (k : XA → St → Option R) :
    codeG P gl call callK LK (.seq c0 (.seq c1 (.seq c3 (.seq c5 (.seq (.seq r6 b0) rest))))) σ k =
    codeG P gl call callK LK (.seq c0 (.seq c1 (.seq c3 (.seq c5 r6)))) σ (fun x σ' => match x with
      | .normal => codeG P gl call callK LK (.seq b0 rest) σ' k
      | x => k x σ') := by
  simp only [codeG]
  congr 1; funext x σ1; cases x <;> try rfl
  dsimp only
  congr 1; funext x σ1; cases x <;> try rfl
  dsimp only
  congr 1; funext x σ1; cases x <;> try rfl
  dsimp only
  congr 1; funext x σ1; cases x <;> try rfl
  dsimp only
  congr 1; funext x σ1; cases x <;> try rfl
noncomputable def aw6 (ar : List Value) : Option (Bool × Value) := match ar with
  | [] => some (true, .bool true)
  | _ => none
/-- Parse's answer as one form. -/
def mk7 (r : PR) : Value := .tuple ⟨[.agg ⟨[.string r.s, .string r.t, .int .i64 r.n, kv r.ks]⟩, .int .i64 r.a, .int .i64 r.e]⟩
def P7 (t : List UInt8) (r : PR) : Prop := ConQ Tryd.prog Lx.lq 7 [.string ⟨⟨t⟩⟩] (mk7 r)
noncomputable def pE (f : List UInt8 → PR) (ar : List Value) : Option (Bool × Value) := match ar with
  | [.string s] => some (tst (P7 s.data.toList (f s.data.toList)), mk7 (f s.data.toList))
  | _ => none
noncomputable abbrev LF (f : List UInt8 → PR) : TabF := andG 6 aw6 <| andG 7 (pE f) noG
noncomputable abbrev fin3 (x : XA) (σ : St) : Option Value := finQ Tryd.prog Tryd.f3 1 1 some x σ
noncomputable abbrev RPre (f : List UInt8 → PR) (LK : LoopK Value) (n how : Int) (K : St → Option Value) : Option Value := codeG Tryd.prog (glV Lx.lq) (nA (LF f)) (nK (LF f)) LK pre3 ⟨argsT 0 [iv n, iv how] .nil, 119, hV Lx.lq, []⟩ fun x σ => match x with
  | .normal => K σ
  | x => fin3 x σ
/-- how & 3. -/
noncomputable def V3 (how : Int) : Value := .int .i64 (IntKind.i64.wrap ((BitVec.ofInt IntKind.i64.bits how &&& BitVec.ofInt IntKind.i64.bits 3).toNat))
theorem V3_cases (how : Int) : ∃ v : Nat, v < 4 ∧ V3 how = .int .i64 (v : Nat) := by
  have h : (BitVec.ofInt IntKind.i64.bits how &&& BitVec.ofInt IntKind.i64.bits 3).toNat < 4 := by
    rw [BitVec.toNat_and]
    have h3 : (BitVec.ofInt IntKind.i64.bits 3).toNat = 3 := by rfl
    rw [h3]
    exact Nat.lt_of_le_of_lt Nat.and_le_right (by decide)
  unfold V3
  generalize (BitVec.ofInt IntKind.i64.bits how &&& BitVec.ofInt IntKind.i64.bits 3).toNat = x at h
  refine ⟨x, h, ?_⟩
  match x, h with
  | 0, _ => rfl
  | 1, _ => rfl
  | 2, _ => rfl
  | 3, _ => rfl
abbrev TS3 : List Nat := [0, 1, 4, 5, 6, 7, 28, 29, 30, 31, 32, 33, 34, 35, 36, 37]
abbrev vs3 (n how : Int) (v : Value) : List Value := [iv n, iv how, .bool false, st [40], st [41], st [49], .bool true, .bool false, iv n, .bool false, .bool false, iv n, .bool false, .bool false, iv how, v]
set_option maxRecDepth 100000 in
theorem pre_run (f : List UInt8 → PR) (LK : LoopK Value) (n how : Int) (K : St → Option Value) : RPre f LK n how K =
  bif Lx.tE then bif decide (n < 1) then some (.bool true) else bif decide (n > 80) then some (.bool true) else K (stT TS3 (vs3 n how (V3 how)) 119 (hV Lx.lq)) else none := by kernel_rfl
/-- Loops told from what some temporaries hold; all else is forgotten. -/
noncomputable def lkD {R : Type} (r : Nat) (ts : List Nat) (f : List Value → Option (Bool × List Value)) (n : Nat) (x : XA) (LK : LoopK R) : LoopK R := fun c σ k =>
  bif isReg r c then (match σ.ds with
    | [] => match picks ts σ.T with
      | some vs => match f vs with
        | some (b, us) => bif b && Nat.beq σ.n n then k x (stT ts us n (hV Lx.lq)) else none
        | none => none
      | none => none
    | _ :: _ => none) else LK c σ k
noncomputable def loD (r : Nat) (ts : List Nat) (f : List Value → Option (Bool × List Value)) (n : Nat) (x : XA) (LO : LoopA) : LoopA := fun c σ =>
  lkD r ts f n x (fun c σ k => match LO c σ with
    | some (x, σ') => k x σ'
    | none => none) c σ fun x σ' => some (x, σ')
theorem lkD_ok {R : Type} {r : Nat} {ts : List Nat} {f : List Value → Option (Bool × List Value)} {n : Nat} {x : XA} {LO : LoopA} {LK : LoopK R} (h : LKok LO LK) : LKok (loD r ts f n x LO) (lkD r ts f n x LK) := by
  intro c σ k
  unfold loD lkD
  cases isReg r c with
  | false =>
    dsimp only [cond_false]
    rw [h c σ k]
    cases LO c σ <;> rfl
  | true =>
    dsimp only [cond_true]
    cases σ.ds with
    | cons a b => rfl
    | nil =>
      dsimp only
      cases picks ts σ.T with
      | none => rfl
      | some vs =>
        dsimp only
        rcases f vs with _ | ⟨b, us⟩
        · rfl
        · dsimp only
          cases b && Nat.beq σ.n n <;> rfl
theorem loD_ok {r : Nat} {ts : List Nat} {f : List Value → Option (Bool × List Value)} {n : Nat} {x : XA} {LO : LoopA} {cl : List Code}
    (hf : ∀ c ∈ cl, isReg r c = true → ∀ vs us, f vs = some (true, us) → (∀ v ∈ vs, plain1 v = true) ∧ LoopTri Tryd.prog (glV Lx.lq) (hV Lx.lq) c (stT ts vs n (hV Lx.lq)) x (stT ts us n (hV Lx.lq)))
    (hL : LoopsOK Tryd.prog (glV Lx.lq) (hV Lx.lq) LO cl) : LoopsOK Tryd.prog (glV Lx.lq) (hV Lx.lq) (loD r ts f n x LO) cl := by
  intro c hc σ x' σ' h
  unfold loD lkD at h
  cases hr : isReg r c with
  | false =>
    rw [hr] at h
    dsimp only [cond_false] at h
    split at h
    · rename_i x1 σ1 h1
      cases h
      exact hL c hc σ _ _ h1
    · cases h
  | true =>
    rw [hr] at h
    dsimp only [cond_true] at h
    split at h
    · rename_i hds
      split at h
      · rename_i vs hvs
        split at h
        · rename_i b us hf'
          cases hb : b && Nat.beq σ.n n with
          | false => rw [hb] at h; cases h
          | true =>
            rw [hb] at h
            rw [Bool.and_eq_true] at hb
            obtain ⟨rfl, hn⟩ := hb
            cases h
            obtain ⟨h1, h2⟩ := hf c hc hr vs us hf'
            exact h2.enter (covers_HV (l := Lx.lq) (bs1 := []) (bs2 := []) Lx.lq_g (ids := []) (dl := []) (Nat.eq_of_beq_eq_true hn) hds hvs rfl rfl (RenL.plain h1) (fun i b b1 h => by simp at h) (by simp) (fun i hi => by cases hi) (fun b hb => by cases hb))
        · cases h
      · cases h
    · cases h
abbrev ov (n : Nat) : Bool := decide ((n : Int) > IntKind.i64.max)
theorem ov_f {n : Nat} (h : n ≤ 1000000) : ov n = false := by
  have : IntKind.i64.max = 9223372036854775807 := by decide
  unfold ov; rw [this]; exact decide_eq_false (by omega)
theorem tl0 (n : Int) (o c m s t : List UInt8) (i : Int) : nB 0 ts0 [iv n, st o, st c, st m, st s, st t, iv i] = bif decide (i < n) then bif ov (s.length + o.length) then none else bif ov (t.length + c.length) then none else some (.normal, [iv n, st o, st c, st m, st (s ++ o), st (t ++ c), iv (IntKind.wrap .i64 (i + 1))], hV Lx.lq, 119) else some (.exit 1, [iv n, st o, st c, st m, st s, st t, iv i], hV Lx.lq, 119) := by kernel_rfl
theorem tl1 (n : Int) (a b : Value) (s t : List UInt8) (i : Int) : nB 1 ts1 [iv n, a, b, st s, st t, iv i] = bif decide (i < n) then bif ov (s.length + 2) then none else bif ov (t.length + 2) then none else some (.normal, [iv n, a, b, st (s ++ [123, 32]), st (t ++ [125, 32]), iv (IntKind.wrap .i64 (i + 1))], hV Lx.lq, 119) else some (.exit 3, [iv n, a, b, st s, st t, iv i], hV Lx.lq, 119) := by kernel_rfl
theorem tl2 (n : Int) (a b c d : Value) (s : List UInt8) (i : Int) : nB 2 ts2 [iv n, a, b, c, d, st s, iv i] = bif decide (i < n) then bif ov (s.length + 2) then none else some (.normal, [iv n, a, b, c, d, st (s ++ [91, 93]), iv (IntKind.wrap .i64 (i + 1))], hV Lx.lq, 119) else some (.exit 5, [iv n, a, b, c, d, st s, iv i], hV Lx.lq, 119) := by kernel_rfl
theorem rp_len (l : List UInt8) : ∀ n, (rp n l).length = n * l.length
  | 0 => by simp [rp]
  | n + 1 => by unfold rp; rw [List.length_append, rp_len l n, Nat.succ_mul]
theorem i64w1 {n : Nat} (h : n ≤ 1000000) : IntKind.wrap .i64 ((n : Int) + 1) = ((n + 1 : Nat) : Int) := by rw [i64w]; omega
theorem loops3 : loopsOf (bodyOf Tryd.f3) = [loopN Tryd.f3 0, loopN Tryd.f3 1, loopN Tryd.f3 2] := by kernel_rfl
theorem lp3_0 {n : Nat} (hn : n ≤ 80) {o c m : List UInt8} (ho : o.length ≤ 10) (hc : c.length ≤ 10) : LoopTri Tryd.prog (glV Lx.lq) (hV Lx.lq) (loopN Tryd.f3 0) (stT ts0 [iv n, st o, st c, st m, st (rp 0 o), st (rp 0 c), iv ((0 : Nat) : Int)] 119 (hV Lx.lq)) (.exit 1) (stT ts0 [iv n, st o, st c, st m, st (rp n o), st (rp n c), iv n] 119 (hV Lx.lq)) := by
  refine loop_plainO hmix (nA_ok noQ_ok) (nK_ok noG) noLK_ok noLO_ok (c := loopN Tryd.f3 0) ts0 (X := {i : Nat // i ≤ n}) (fun i => [iv n, st o, st c, st m, st (rp i.1 o), st (rp i.1 c), iv (i.1 : Nat)]) (fun i => n - i.1) (fun _ => (.exit 1, [iv n, st o, st c, st m, st (rp n o), st (rp n c), iv n])) (fun ⟨i, hi⟩ => ?_) ⟨0, Nat.zero_le _⟩
  dsimp only
  have h := tl0 (n : Nat) o c m (rp i o) (rp i c) (i : Nat)
  by_cases hlt : i < n
  · have e1 : i * o.length ≤ 80 * 10 := Nat.mul_le_mul (by omega) ho
    have e2 : i * c.length ≤ 80 * 10 := Nat.mul_le_mul (by omega) hc
    rw [decide_eq_true (show (i : Int) < (n : Int) by omega), cond_true, ov_f (by rw [rp_len]; omega), ov_f (by rw [rp_len]; omega), i64w1 (by omega)] at h
    exact ⟨_, _, h, .inl ⟨rfl, ⟨i + 1, hlt⟩, rfl, by dsimp only; omega, rfl⟩⟩
  · obtain rfl : i = n := by omega
    rw [decide_eq_false (Int.lt_irrefl _)] at h
    exact ⟨_, _, h, .inr ⟨by simp, rfl⟩⟩
theorem lp3_1 {n : Nat} (hn : n ≤ 80) {a b : Value} : LoopTri Tryd.prog (glV Lx.lq) (hV Lx.lq) (loopN Tryd.f3 1) (stT ts1 [iv n, a, b, st (rp 0 [123, 32]), st (rp 0 [125, 32]), iv ((0 : Nat) : Int)] 119 (hV Lx.lq)) (.exit 3) (stT ts1 [iv n, a, b, st (rp n [123, 32]), st (rp n [125, 32]), iv n] 119 (hV Lx.lq)) := by
  refine loop_plainO hmix (nA_ok noQ_ok) (nK_ok noG) noLK_ok noLO_ok (c := loopN Tryd.f3 1) ts1 (X := {i : Nat // i ≤ n}) (fun i => [iv n, a, b, st (rp i.1 [123, 32]), st (rp i.1 [125, 32]), iv (i.1 : Nat)]) (fun i => n - i.1) (fun _ => (.exit 3, [iv n, a, b, st (rp n [123, 32]), st (rp n [125, 32]), iv n])) (fun ⟨i, hi⟩ => ?_) ⟨0, Nat.zero_le _⟩
  dsimp only
  have h := tl1 (n : Nat) a b (rp i [123, 32]) (rp i [125, 32]) (i : Nat)
  by_cases hlt : i < n
  · rw [decide_eq_true (show (i : Int) < (n : Int) by omega), cond_true, ov_f (by rw [rp_len]; simp only [List.length_cons, List.length_nil]; omega), ov_f (by rw [rp_len]; simp only [List.length_cons, List.length_nil]; omega), i64w1 (by omega)] at h
    exact ⟨_, _, h, .inl ⟨rfl, ⟨i + 1, hlt⟩, rfl, by dsimp only; omega, rfl⟩⟩
  · obtain rfl : i = n := by omega
    rw [decide_eq_false (Int.lt_irrefl _)] at h
    exact ⟨_, _, h, .inr ⟨by simp, rfl⟩⟩
theorem lp3_2 {n : Nat} (hn : n ≤ 80) {a b c d : Value} : LoopTri Tryd.prog (glV Lx.lq) (hV Lx.lq) (loopN Tryd.f3 2) (stT ts2 [iv n, a, b, c, d, st (rp 0 [91, 93]), iv ((0 : Nat) : Int)] 119 (hV Lx.lq)) (.exit 5) (stT ts2 [iv n, a, b, c, d, st (rp n [91, 93]), iv n] 119 (hV Lx.lq)) := by
  refine loop_plainO hmix (nA_ok noQ_ok) (nK_ok noG) noLK_ok noLO_ok (c := loopN Tryd.f3 2) ts2 (X := {i : Nat // i ≤ n}) (fun i => [iv n, a, b, c, d, st (rp i.1 [91, 93]), iv (i.1 : Nat)]) (fun i => n - i.1) (fun _ => (.exit 5, [iv n, a, b, c, d, st (rp n [91, 93]), iv n])) (fun ⟨i, hi⟩ => ?_) ⟨0, Nat.zero_le _⟩
  dsimp only
  have h := tl2 (n : Nat) a b c d (rp i [91, 93]) (i : Nat)
  by_cases hlt : i < n
  · rw [decide_eq_true (show (i : Int) < (n : Int) by omega), cond_true, ov_f (by rw [rp_len]; simp only [List.length_cons, List.length_nil]; omega), i64w1 (by omega)] at h
    exact ⟨_, _, h, .inl ⟨rfl, ⟨i + 1, hlt⟩, rfl, by dsimp only; omega, rfl⟩⟩
  · obtain rfl : i = n := by omega
    rw [decide_eq_false (Int.lt_irrefl _)] at h
    exact ⟨_, _, h, .inr ⟨by simp, rfl⟩⟩
noncomputable def g0 (n : Nat) (vs : List Value) : Option (Bool × List Value) := match vs with
  | [a, .string ⟨⟨o⟩⟩, .string ⟨⟨c⟩⟩, .string ⟨⟨m⟩⟩, s, t, i] => some (tst (a = iv n ∧ s = st [] ∧ t = st [] ∧ i = iv 0 ∧ o.length ≤ 10 ∧ c.length ≤ 10), [iv n, st o, st c, st m, st (rp n o), st (rp n c), iv n])
  | _ => none
noncomputable def g1 (n : Nat) (vs : List Value) : Option (Bool × List Value) := match vs with
  | [x, a, b, s, t, i] => some (tst (x = iv n ∧ s = st [] ∧ t = st [] ∧ i = iv 0 ∧ plain1 a = true ∧ plain1 b = true), [iv n, a, b, st (rp n [123, 32]), st (rp n [125, 32]), iv n])
  | _ => none
noncomputable def g2 (n : Nat) (vs : List Value) : Option (Bool × List Value) := match vs with
  | [x, a, b, c, d, s, i] => some (tst (x = iv n ∧ s = st [] ∧ i = iv 0 ∧ plain1 a = true ∧ plain1 b = true ∧ plain1 c = true ∧ plain1 d = true), [iv n, a, b, c, d, st (rp n [91, 93]), iv n])
  | _ => none
noncomputable abbrev LK3 {R : Type} (n : Nat) : LoopK R := lkD 15 ts0 (g0 n) 119 (.exit 1) (lkD 25 ts1 (g1 n) 119 (.exit 3) (lkD 35 ts2 (g2 n) 119 (.exit 5) noLK))
noncomputable abbrev LO3 (n : Nat) : LoopA := loD 15 ts0 (g0 n) 119 (.exit 1) (loD 25 ts1 (g1 n) 119 (.exit 3) (loD 35 ts2 (g2 n) 119 (.exit 5) noLO))
theorem isR : (isReg 15 (loopN Tryd.f3 1), isReg 15 (loopN Tryd.f3 2), isReg 25 (loopN Tryd.f3 0), isReg 25 (loopN Tryd.f3 2), isReg 35 (loopN Tryd.f3 0), isReg 35 (loopN Tryd.f3 1)) = (false, false, false, false, false, false) := by kernel_rfl
theorem LO3_ok {n : Nat} (hn : n ≤ 80) : LoopsOK Tryd.prog (glV Lx.lq) (hV Lx.lq) (LO3 n) (loopsOf (bodyOf Tryd.f3)) := by
  have hr := isR
  simp only [Prod.mk.injEq] at hr
  obtain ⟨r1, r2, r3, r4, r5, r6⟩ := hr
  rw [loops3]
  refine loD_ok (fun c hc hr vs us h => ?_) (loD_ok (fun c hc hr vs us h => ?_) (loD_ok (fun c hc hr vs us h => ?_) noLO_ok))
  · simp only [List.mem_cons, List.not_mem_nil, or_false] at hc
    have hc' : c = loopN Tryd.f3 0 := by
      rcases hc with h | h | h
      · exact h
      · rw [h, r1] at hr; cases hr
      · rw [h, r2] at hr; cases hr
    subst hc'
    unfold g0 at h
    split at h
    · simp only [Option.some.injEq, Prod.mk.injEq] at h
      obtain ⟨ht, rfl⟩ := h
      obtain ⟨rfl, rfl, rfl, rfl, h1, h2⟩ := of_tst ht
      exact ⟨by simp [plain1], lp3_0 hn h1 h2⟩
    · cases h
  · simp only [List.mem_cons, List.not_mem_nil, or_false] at hc
    have hc' : c = loopN Tryd.f3 1 := by
      rcases hc with h | h | h
      · rw [h, r3] at hr; cases hr
      · exact h
      · rw [h, r4] at hr; cases hr
    subst hc'
    unfold g1 at h
    split at h
    · simp only [Option.some.injEq, Prod.mk.injEq] at h
      obtain ⟨ht, rfl⟩ := h
      obtain ⟨rfl, rfl, rfl, rfl, h1, h2⟩ := of_tst ht
      refine ⟨fun v hv => ?_, lp3_1 hn⟩
      simp only [List.mem_cons, List.not_mem_nil, or_false] at hv
      rcases hv with rfl | rfl | rfl | rfl | rfl | rfl <;> first | exact h1 | exact h2 | rfl
    · cases h
  · simp only [List.mem_cons, List.not_mem_nil, or_false] at hc
    have hc' : c = loopN Tryd.f3 2 := by
      rcases hc with h | h | h
      · rw [h, r5] at hr; cases hr
      · rw [h, r6] at hr; cases hr
      · exact h
    subst hc'
    unfold g2 at h
    split at h
    · simp only [Option.some.injEq, Prod.mk.injEq] at h
      obtain ⟨ht, rfl⟩ := h
      obtain ⟨rfl, rfl, rfl, h1, h2, h3, h4⟩ := of_tst ht
      refine ⟨fun v hv => ?_, lp3_2 hn⟩
      simp only [List.mem_cons, List.not_mem_nil, or_false] at hv
      rcases hv with rfl | rfl | rfl | rfl | rfl | rfl | rfl <;> first | exact h1 | exact h2 | exact h3 | exact h4 | rfl
    · cases h
noncomputable abbrev RPost (f : List UInt8 → PR) (n : Nat) (how : Int) (v : Nat) : Option Value := codeG Tryd.prog (glV Lx.lq) (nA (LF f)) (nK (LF f)) (LK3 n) post3 (stT TS3 (vs3 n how (iv v)) 119 (hV Lx.lq)) fin3
noncomputable abbrev hA (f : List UInt8 → PR) (v n : Nat) (x : Option Value) : Option Value := bif tst (iv n = iv n ∧ st [] = st [] ∧ st [] = st [] ∧ iv 0 = iv 0 ∧ (opV v).length ≤ 10 ∧ (shV v).length ≤ 10) && Nat.beq 119 119 then bif ov (20 + (rp n (opV v)).length) then none else bif ov ((preA ++ rp n (opV v)).length + 1) then none else bif ov ((preA ++ rp n (opV v) ++ [49]).length + (rp n (shV v)).length) then none else bif ov ((preA ++ rp n (opV v) ++ [49] ++ rp n (shV v)).length + 3) then none else bif Lx.tE then bif tst (P7 (txA v n) (f (txA v n))) then x else none else none else none
noncomputable abbrev hB (f : List UInt8 → PR) (n : Nat) (x : Option Value) : Option Value := bif tst (iv n = iv n ∧ st [] = st [] ∧ st [] = st [] ∧ iv 0 = iv 0 ∧ true = true ∧ true = true) && Nat.beq 119 119 then bif ov (12 + (rp n [123, 32]).length) then none else bif ov (([102, 117, 110, 99, 32, 109, 97, 105, 110, 40, 41, 32] ++ rp n [123, 32]).length + (rp n [125, 32]).length) then none else bif Lx.tE then bif tst (P7 (txB n) (f (txB n))) then x else none else none else none
noncomputable abbrev hC (f : List UInt8 → PR) (n : Nat) (x : Option Value) : Option Value := bif tst (iv n = iv n ∧ st [] = st [] ∧ iv 0 = iv 0 ∧ true = true ∧ true = true ∧ true = true ∧ true = true) && Nat.beq 119 119 then bif ov (6 + (rp n [91, 93]).length) then none else bif ov (([118, 97, 114, 32, 120, 32] ++ rp n [91, 93]).length + 4) then none else bif Lx.tE then bif tst (P7 (txC n) (f (txC n))) then x else none else none else none
abbrev eE (f : List UInt8 → PR) (v n : Nat) (a b c : Int) : Option Value := bif (f (txA v n)).e == a then bif (f (txB n)).e == b then bif (f (txC n)).e == c then some (.bool true) else some (.bool false) else some (.bool false) else some (.bool false)
noncomputable abbrev tailT (f : List UInt8 → PR) (v n : Nat) : Option Value := hA f v n (bif decide ((n : Int) > 59) then hB f n (bif decide ((n : Int) > 60) then hC f n (bif decide ((n : Int) > 59) then eE f v n 2 2 2 else eE f v n 2 2 0) else hC f n (bif decide ((n : Int) > 59) then eE f v n 2 0 2 else eE f v n 2 0 0)) else hB f n (bif decide ((n : Int) > 60) then hC f n (bif decide ((n : Int) > 59) then eE f v n 0 2 2 else eE f v n 0 2 0) else hC f n (bif decide ((n : Int) > 59) then eE f v n 0 0 2 else eE f v n 0 0 0)))
set_option maxRecDepth 100000 in
theorem tail0 (f : List UInt8 → PR) (n : Nat) (how : Int) : RPost f n how 0 = tailT f 0 n := by kernel_rfl
set_option maxRecDepth 100000 in
theorem tail1 (f : List UInt8 → PR) (n : Nat) (how : Int) : RPost f n how 1 = tailT f 1 n := by kernel_rfl
set_option maxRecDepth 100000 in
theorem tail2 (f : List UInt8 → PR) (n : Nat) (how : Int) : RPost f n how 2 = tailT f 2 n := by kernel_rfl
set_option maxRecDepth 100000 in
theorem tail3 (f : List UInt8 → PR) (n : Nat) (how : Int) : RPost f n how 3 = tailT f 3 n := by kernel_rfl
theorem opV_len (v : Nat) : (opV v).length ≤ 10 ∧ (shV v).length ≤ 10 := by
  match v with
  | 0 => decide
  | 1 => decide
  | 2 => decide
  | v + 3 => exact ⟨show 2 ≤ 10 by decide, show 1 ≤ 10 by decide⟩
theorem txA_len (v n : Nat) (hn : n ≤ 80) : (rp n (opV v)).length ≤ 800 ∧ (rp n (shV v)).length ≤ 800 := by
  obtain ⟨h1, h2⟩ := opV_len v
  rw [rp_len, rp_len]
  exact ⟨Nat.mul_le_mul hn h1, Nat.mul_le_mul hn h2⟩
theorem hA_ok {f : List UInt8 → PR} {v n : Nat} (hn : n ≤ 80) (h : P7 (txA v n) (f (txA v n))) (x : Option Value) : hA f v n x = x := by
  obtain ⟨h1, h2⟩ := txA_len v n hn
  obtain ⟨h3, h4⟩ := opV_len v
  unfold hA
  rw [tst_of ⟨rfl, rfl, rfl, rfl, h3, h4⟩, ov_f (by omega), ov_f (by rw [List.length_append]; simp only [preA, List.length_cons, List.length_nil]; omega), ov_f (by simp only [List.length_append, preA, List.length_cons, List.length_nil]; omega), ov_f (by simp only [List.length_append, preA, List.length_cons, List.length_nil]; omega), Lx.tE_t, tst_of h]
  rfl
theorem hB_ok {f : List UInt8 → PR} {n : Nat} (hn : n ≤ 80) (h : P7 (txB n) (f (txB n))) (x : Option Value) : hB f n x = x := by
  unfold hB
  rw [tst_of ⟨rfl, rfl, rfl, rfl, rfl, rfl⟩, ov_f (by rw [rp_len]; simp only [List.length_cons, List.length_nil]; omega), ov_f (by rw [List.length_append, rp_len, rp_len]; simp only [List.length_cons, List.length_nil]; omega), Lx.tE_t, tst_of h]
  rfl
theorem hC_ok {f : List UInt8 → PR} {n : Nat} (hn : n ≤ 80) (h : P7 (txC n) (f (txC n))) (x : Option Value) : hC f n x = x := by
  unfold hC
  rw [tst_of ⟨rfl, rfl, rfl, rfl, rfl, rfl, rfl⟩, ov_f (by rw [rp_len]; simp only [List.length_cons, List.length_nil]; omega), ov_f (by rw [List.length_append, rp_len]; simp only [List.length_cons, List.length_nil]; omega), Lx.tE_t, tst_of h]
  rfl
/-- What each text comes to. -/
def wA (n : Nat) : Int := if n > 59 then 2 else 0
def wB (n : Nat) : Int := if n > 60 then 2 else 0
theorem tail_true {f : List UInt8 → PR} {v n : Nat} (hn : n ≤ 80) (h1 : P7 (txA v n) (f (txA v n))) (h2 : P7 (txB n) (f (txB n))) (h3 : P7 (txC n) (f (txC n))) (e1 : (f (txA v n)).e = wA n) (e2 : (f (txB n)).e = wB n) (e3 : (f (txC n)).e = wA n) : tailT f v n = some (.bool true) := by
  unfold tailT
  simp only [hA_ok hn h1, hB_ok hn h2, hC_ok hn h3]
  unfold eE
  rw [e1, e2, e3]
  unfold wA wB
  by_cases a : n > 59
  · rw [decide_eq_true (show (n : Int) > 59 by omega), if_pos a]
    by_cases b : n > 60
    · rw [decide_eq_true (show (n : Int) > 60 by omega), if_pos b]; rfl
    · rw [decide_eq_false (show ¬ (n : Int) > 60 by omega), if_neg b]; rfl
  · rw [decide_eq_false (show ¬ (n : Int) > 59 by omega), if_neg a, decide_eq_false (show ¬ (n : Int) > 60 by omega), if_neg (show ¬ n > 60 by omega)]; rfl
/-- An answer as it is told. -/
def norm7 (r : PR) : PR := bif r.e != 0 then ⟨false, 0, 0, b0, b0, .nil, 0, 0, r.e, r.a⟩ else ⟨false, 0, r.n, r.s, r.t, r.ks, 0, 0, 0, 0⟩
theorem P7_norm {t : List UInt8} (hs : t.length ≤ 16384) {ws : List Lx.Wd} (hc : Lx.cutAll t = (ws, none)) {n : Nat} {r : PR} (hr : pn (wL (Lx.endW t ws)) n 13 .u 0 0 0 0 = some r) : P7 t (norm7 r) := by
  have hcon := parse_conP hs hc hr
  unfold pvV at hcon
  unfold norm7
  cases h0 : (r.e != 0) with
  | false =>
    rw [h0] at hcon
    exact hcon
  | true =>
    rw [h0] at hcon
    refine fun w S args hw hargs => (hcon w S args hw hargs).mono ?_
    rintro e w' ⟨c, rfl, hb, hv⟩
    refine ⟨c, rfl, hb, ?_⟩
    obtain ⟨ys, rfl, hl⟩ := hv.tupleI
    refine .tuple _ ys hl.1 fun i x y hx hy => ?_
    match i with
    | 0 =>
      cases hx
      have := hl.2 0 _ y rfl hy
      exact nz_rel this
    | 1 => cases hx; exact hl.2 1 _ y rfl hy
    | 2 => cases hx; exact hl.2 2 _ y rfl hy
    | i + 3 => cases hx
theorem norm7_e (r : PR) : (norm7 r).e = r.e := by
  unfold norm7
  cases h0 : (r.e != 0) with
  | true => rfl
  | false =>
    have : r.e = 0 := by simpa using h0
    rw [this]; rfl
theorem P7_of {t : List UInt8} (hs : t.length ≤ 16384) {E : Int} (h : outE t = some E) : ∃ r, P7 t r ∧ r.e = E := by
  unfold outE at h
  split at h
  · rename_i ws hc
    cases hr : pn (wL (Lx.endW t ws)) 1200 13 .u 0 0 0 0 with
    | none => rw [hr] at h; cases h
    | some r =>
      rw [hr] at h
      exact ⟨norm7 r, P7_norm hs hc hr, by rw [norm7_e]; exact Option.some.inj h⟩
  · cases h
open Classical in
noncomputable def fP (t : List UInt8) : PR := if h : ∃ r, P7 t r ∧ outE t = some r.e then h.choose else ⟨false, 0, 0, b0, b0, .nil, 0, 0, 0, 0⟩
theorem fP_ok {t : List UInt8} (hs : t.length ≤ 16384) {E : Int} (h : outE t = some E) : P7 t (fP t) ∧ (fP t).e = E := by
  obtain ⟨r, h1, h2⟩ := P7_of hs h
  have hx : ∃ r, P7 t r ∧ outE t = some r.e := ⟨r, h1, by rw [h, h2]⟩
  unfold fP
  rw [dif_pos hx]
  refine ⟨hx.choose_spec.1, ?_⟩
  exact Option.some.inj (hx.choose_spec.2.symm.trans h)
abbrev tw1 : List UInt8 := [102, 117, 110, 99, 32, 109, 97, 105, 110, 40, 41, 32, 123, 32, 112, 114, 105, 110, 116, 32, 49, 32, 43, 32, 50, 59, 32, 125]
abbrev tw2 : List UInt8 := [102, 117, 110, 99]
/-- A text's answer, all of it. -/
noncomputable def outP (t : List UInt8) (n : Nat) : Option PR := match Lx.cutAll t with
  | (ws, none) => (pn (wL (Lx.endW t ws)) n 13 .u 0 0 0 0).map norm7
  | _ => none
theorem outP_ok {t : List UInt8} (hs : t.length ≤ 16384) {n : Nat} {r : PR} (h : outP t n = some r) : P7 t r := by
  unfold outP at h
  split at h
  · rename_i ws hc
    cases hr : pn (wL (Lx.endW t ws)) n 13 .u 0 0 0 0 with
    | none => rw [hr] at h; cases h
    | some r' =>
      rw [hr] at h
      cases h
      exact P7_norm hs hc hr
  · cases h
abbrev nS (l : List UInt8) : ByteArray := ⟨⟨l⟩⟩
abbrev wR1 : PR := ⟨false, 0, 0, nS [112, 114, 111, 103, 114, 97, 109], b0, .cons (nS [102, 117, 110, 99]) (nS [109, 97, 105, 110]) 0 (.cons (nS [112, 97, 114, 97, 109, 115]) b0 10 .nil (.cons (nS [110, 111, 110, 101]) b0 12 .nil (.cons (nS [98, 108, 111, 99, 107]) b0 12 (.cons (nS [112, 114, 105, 110, 116]) b0 14 (.cons (nS [98, 105, 110, 97, 114, 121]) (nS [43]) 22 (.cons (nS [110, 117, 109, 98, 101, 114]) (nS [49]) 20 .nil (.cons (nS [110, 117, 109, 98, 101, 114]) (nS [50]) 24 .nil .nil)) .nil) .nil) .nil))) .nil, 0, 0, 0, 0⟩
abbrev wR2 : PR := ⟨false, 0, 0, b0, b0, .nil, 0, 0, 6, 4⟩
theorem outP1 : outP tw1 100 = some wR1 := by kernel_rfl
theorem outP2 : outP tw2 100 = some wR2 := by kernel_rfl
noncomputable def fA (t : List UInt8) : PR := bif Nat.beq t.length 4 then wR2 else wR1
theorem awake_run : runQ Tryd.prog Lx.lq (nA (andG 7 (pE fA) noG)) (nK (andG 7 (pE fA) noG)) noLK 1 Tryd.f6 [] = bif Lx.tE then bif tst (P7 tw1 wR1) then bif Lx.tE then bif tst (P7 tw2 wR2) then some (.bool true) else none else none else none else none := by kernel_rfl
theorem awake_con : ConQ Tryd.prog Lx.lq 6 [] (.bool true) := by
  have hF : TabQ Tryd.prog Lx.lq (andG 7 (pE fA) noG) := by
    refine andQ_ok Tryd.func7 rfl (by kernel_rfl) (fun ar v h => ?_) noQ_ok
    unfold pE at h
    split at h
    · rename_i s
      simp only [Option.some.injEq, Prod.mk.injEq] at h
      obtain ⟨ht, rfl⟩ := h
      exact of_tst ht
    · cases h
  refine conQ hmix (nA_ok hF) (nK_ok _) noLK_ok Tryd.func6 rfl (by kernel_rfl) noLO_ok (d := 1) ?_
  rw [awake_run, Lx.tE_t, tst_of (outP_ok (by decide) outP1), tst_of (outP_ok (by decide) outP2)]
  rfl
theorem LF_ok (f : List UInt8 → PR) : TabQ Tryd.prog Lx.lq (LF f) := by
  refine andQ_ok Tryd.func6 rfl (by kernel_rfl) (fun ar v h => ?_) (andQ_ok Tryd.func7 rfl (by kernel_rfl) (fun ar v h => ?_) noQ_ok)
  · unfold aw6 at h
    split at h
    · cases h; exact awake_con
    · cases h
  · unfold pE at h
    split at h
    · rename_i s
      simp only [Option.some.injEq, Prod.mk.injEq] at h
      obtain ⟨ht, rfl⟩ := h
      exact of_tst ht
    · cases h
/-- What is asked of the runs. -/
def RunsOK : Prop := ∀ n, n ≤ 80 → 1 ≤ n → (∀ v, v < 4 → outE (txA v n) = some (wA n)) ∧ outE (txB n) = some (wB n) ∧ outE (txC n) = some (wA n)
theorem nests_run (hR : RunsOK) (n how : Int) : runQ Tryd.prog Lx.lq (nA (LF fP)) (nK (LF fP)) (LK3 n.toNat) 1 Tryd.f3 [iv n, iv how] = some (.bool true) := by
  have e : runQ Tryd.prog Lx.lq (nA (LF fP)) (nK (LF fP)) (LK3 n.toNat) 1 Tryd.f3 [iv n, iv how] = RPre fP (LK3 n.toNat) n how (fun σ => codeG Tryd.prog (glV Lx.lq) (nA (LF fP)) (nK (LF fP)) (LK3 n.toNat) post3 σ fin3) := by
    show codeG Tryd.prog (glV Lx.lq) (nA (LF fP)) (nK (LF fP)) (LK3 n.toNat) (bodyOf Tryd.f3) _ fin3 = _
    rw [b3_eq, codeG_split]
    rfl
  rw [e, pre_run, Lx.tE_t, cond_true]
  by_cases h1 : n < 1
  · rw [decide_eq_true h1]; rfl
  · by_cases h2 : n > 80
    · rw [decide_eq_false h1, decide_eq_true h2]; rfl
    · rw [decide_eq_false h1, decide_eq_false h2]
      obtain ⟨m, rfl⟩ : ∃ m : Nat, n = m := ⟨n.toNat, by omega⟩
      have hm : m ≤ 80 := by omega
      obtain ⟨v, hv, ev⟩ := V3_cases how
      rw [ev, Int.toNat_natCast]
      dsimp only [cond_false]
      have key : RPost fP m how v = tailT fP v m := by
        match v, hv with
        | 0, _ => exact tail0 fP m how
        | 1, _ => exact tail1 fP m how
        | 2, _ => exact tail2 fP m how
        | 3, _ => exact tail3 fP m how
      obtain ⟨r1, r2, r3⟩ := hR m hm (by omega)
      obtain ⟨l1, l2⟩ := txA_len v m hm
      obtain ⟨a1, a2⟩ := fP_ok (by simp only [txA, List.length_append, preA, List.length_cons, List.length_nil]; omega) (r1 v hv)
      obtain ⟨b1, b2⟩ := fP_ok (by simp only [txB, List.length_append, rp_len, List.length_cons, List.length_nil]; omega) r2
      obtain ⟨c1, c2⟩ := fP_ok (by simp only [txC, List.length_append, rp_len, List.length_cons, List.length_nil]; omega) r3
      exact key.trans (tail_true hm a1 b1 c1 a2 b2 c2)
theorem nests_walk' (hR : RunsOK) (n how : Int) (w : World) (hw : ∀ x ∈ Lx.lq, RowS w (fun _ => True) x) : Calls Tryd.prog 3 #[.int .i64 n, .int .i64 how] w fun e w' => e = .returned (.bool true) ∧ Below w.heap.size w w' := by
  have hLO : LoopsOK Tryd.prog (glV Lx.lq) (hV Lx.lq) (LO3 n.toNat) (loopsOf (bodyOf Tryd.f3)) ∨ n > 80 := by
    by_cases h : n > 80
    · exact .inr h
    · exact .inl (LO3_ok (by omega))
  have hc : ConQ Tryd.prog Lx.lq 3 [iv n, iv how] (.bool true) := by
    rcases hLO with hLO | h80
    · exact conQ hmix (nA_ok (LF_ok fP)) (nK_ok _) (lkD_ok (lkD_ok (lkD_ok noLK_ok))) Tryd.func3 rfl (by kernel_rfl) hLO (nests_run hR n how)
    · refine conQ hmix (nA_ok (LF_ok fP)) (nK_ok _) noLK_ok Tryd.func3 rfl (by kernel_rfl) noLO_ok (d := 1) ?_
      have e : runQ Tryd.prog Lx.lq (nA (LF fP)) (nK (LF fP)) noLK 1 Tryd.f3 [iv n, iv how] = RPre fP noLK n how (fun σ => codeG Tryd.prog (glV Lx.lq) (nA (LF fP)) (nK (LF fP)) noLK post3 σ fin3) := by
        show codeG Tryd.prog (glV Lx.lq) (nA (LF fP)) (nK (LF fP)) noLK (bodyOf Tryd.f3) _ fin3 = _
        rw [b3_eq, codeG_split]
        rfl
      rw [e, pre_run, Lx.tE_t, cond_true, decide_eq_false (by omega), decide_eq_true h80]; rfl
  refine (hc w (fun _ => True) #[iv n, iv how] hw (.cons (.plain _ rfl) (.cons (.plain _ rfl) .nil))).mono ?_
  rintro e w' ⟨c, rfl, hb, hv⟩
  exact ⟨by rw [hv.plainV_eq rfl], hb⟩
end Go.Proofs.YtachednafdmmaaaDoor.AI
