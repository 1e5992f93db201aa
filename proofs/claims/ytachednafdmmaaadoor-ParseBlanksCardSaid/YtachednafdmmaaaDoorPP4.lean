/- The parser. -/
import Derived.Test.YtachednafdmmaaaDoorPP2
import Derived.KernelRfl
namespace Go.Proofs.YtachednafdmmaaaDoor.AI
open Go Go.RowKit 
set_option linter.unusedVariables false
set_option linter.unusedSimpArgs false
/-- n times. -/
def rp : Nat → List UInt8 → List UInt8
  | 0, _ => []
  | n + 1, l => rp n l ++ l
abbrev preA : List UInt8 := [102, 117, 110, 99, 32, 109, 97, 105, 110, 40, 41, 32, 123, 32, 112, 114, 105, 110, 116, 32]
def opV : Nat → List UInt8
  | 0 => [40]
  | 1 => [45]
  | 2 => [120, 91]
  | _ => [102, 40]
def shV : Nat → List UInt8
  | 0 => [41]
  | 1 => []
  | 2 => [93]
  | _ => [41]
def txA (v n : Nat) : List UInt8 := preA ++ rp n (opV v) ++ [49] ++ rp n (shV v) ++ [59, 32, 125]
def txB (n : Nat) : List UInt8 := [102, 117, 110, 99, 32, 109, 97, 105, 110, 40, 41, 32] ++ rp n [123, 32] ++ rp n [125, 32]
def txC (n : Nat) : List UInt8 := [118, 97, 114, 32, 120, 32] ++ rp n [91, 93] ++ [105, 110, 116, 59]
noncomputable abbrev nA (F : TabF) : CallA := sumQ (glV Lx.lq) Lx.lq (fun _ => 2) F
noncomputable abbrev nK {R : Type} (F : TabF) : CK R := sumQK (glV Lx.lq) Lx.lq (fun _ => 2) F
theorem nA_ok {F : TabF} (hF : TabQ Tryd.prog Lx.lq F) : CallOK Tryd.prog (glV Lx.lq) (nA F) := sumQ_ok Lx.lq_g _ hF
theorem nK_ok {R : Type} (F : TabF) : CKok (R := R) (nA F) (nK F) := sumQK_ok _ _ _ _
abbrev ts0 : List Nat := [0, 5, 6, 7, 8, 9, 10]
noncomputable def b3 : Code := bodyOf Tryd.f3
noncomputable def aw6 (ar : List Value) : Option (Bool × Value) := match ar with
  | [] => some (true, .bool true)
  | _ => none
/-- Parse's answer as one form. -/
def mk7 (r : PR) : Value := .tuple ⟨[.agg ⟨[.string r.s, .string r.t, .int .i64 r.n, kv r.ks]⟩, .int .i64 r.a, .int .i64 r.e]⟩
def P7 (t : List UInt8) (r : PR) : Prop := ConQ Tryd.prog Lx.lq 7 [.string ⟨⟨t⟩⟩] (mk7 r)
noncomputable def pE (f : List UInt8 → PR) (ar : List Value) : Option (Bool × Value) := match ar with
  | [.string s] => some (tst (P7 s.data.toList (f s.data.toList)), mk7 (f s.data.toList))
  | _ => none
abbrev ov (n : Nat) : Bool := decide ((n : Int) > IntKind.i64.max)
theorem i64w1 {n : Nat} (h : n ≤ 1000000) : IntKind.wrap .i64 ((n : Int) + 1) = ((n + 1 : Nat) : Int) := by rw [i64w]; omega
noncomputable def g0 (n : Nat) (vs : List Value) : Option (Bool × List Value) := match vs with
  | [a, .string ⟨⟨o⟩⟩, .string ⟨⟨c⟩⟩, .string ⟨⟨m⟩⟩, s, t, i] => some (tst (a = iv n ∧ s = st [] ∧ t = st [] ∧ i = iv 0 ∧ o.length ≤ 10 ∧ c.length ≤ 10), [iv n, st o, st c, st m, st (rp n o), st (rp n c), iv n])
  | _ => none
noncomputable def g1 (n : Nat) (vs : List Value) : Option (Bool × List Value) := match vs with
  | [x, a, b, s, t, i] => some (tst (x = iv n ∧ s = st [] ∧ t = st [] ∧ i = iv 0 ∧ plain1 a = true ∧ plain1 b = true), [iv n, a, b, st (rp n [123, 32]), st (rp n [125, 32]), iv n])
  | _ => none
noncomputable def g2 (n : Nat) (vs : List Value) : Option (Bool × List Value) := match vs with
  | [x, a, b, c, d, s, i] => some (tst (x = iv n ∧ s = st [] ∧ i = iv 0 ∧ plain1 a = true ∧ plain1 b = true ∧ plain1 c = true ∧ plain1 d = true), [iv n, a, b, c, d, st (rp n [91, 93]), iv n])
  | _ => none
noncomputable abbrev hA (f : List UInt8 → PR) (v n : Nat) (x : Option Value) : Option Value := bif tst (iv n = iv n ∧ st [] = st [] ∧ st [] = st [] ∧ iv 0 = iv 0 ∧ (opV v).length ≤ 10 ∧ (shV v).length ≤ 10) && Nat.beq 119 119 then bif ov (20 + (rp n (opV v)).length) then none else bif ov ((preA ++ rp n (opV v)).length + 1) then none else bif ov ((preA ++ rp n (opV v) ++ [49]).length + (rp n (shV v)).length) then none else bif ov ((preA ++ rp n (opV v) ++ [49] ++ rp n (shV v)).length + 3) then none else bif Lx.tE then bif tst (P7 (txA v n) (f (txA v n))) then x else none else none else none
noncomputable abbrev hB (f : List UInt8 → PR) (n : Nat) (x : Option Value) : Option Value := bif tst (iv n = iv n ∧ st [] = st [] ∧ st [] = st [] ∧ iv 0 = iv 0 ∧ true = true ∧ true = true) && Nat.beq 119 119 then bif ov (12 + (rp n [123, 32]).length) then none else bif ov (([102, 117, 110, 99, 32, 109, 97, 105, 110, 40, 41, 32] ++ rp n [123, 32]).length + (rp n [125, 32]).length) then none else bif Lx.tE then bif tst (P7 (txB n) (f (txB n))) then x else none else none else none
noncomputable abbrev hC (f : List UInt8 → PR) (n : Nat) (x : Option Value) : Option Value := bif tst (iv n = iv n ∧ st [] = st [] ∧ iv 0 = iv 0 ∧ true = true ∧ true = true ∧ true = true ∧ true = true) && Nat.beq 119 119 then bif ov (6 + (rp n [91, 93]).length) then none else bif ov (([118, 97, 114, 32, 120, 32] ++ rp n [91, 93]).length + 4) then none else bif Lx.tE then bif tst (P7 (txC n) (f (txC n))) then x else none else none else none
/-- An answer as it is told. -/
def norm7 (r : PR) : PR := bif r.e != 0 then ⟨false, 0, 0, b0, b0, .nil, 0, 0, r.e, r.a⟩ else ⟨false, 0, r.n, r.s, r.t, r.ks, 0, 0, 0, 0⟩
theorem P7_norm {t : List UInt8} (hs : t.length ≤ 16384) {ws : List Lx.Wd} (hc : Lx.cutAll t = (ws, none)) {n : Nat} {r : PR} (hr : pn (wL (Lx.endW t ws)) n 13 .u 0 0 0 0 = some r) : P7 t (norm7 r) := by
  have hcon := parse_conP hs hc hr
  unfold pvV at hcon
  unfold norm7
  cases h0 : (r.e != 0) with
  | false =>
    rw [h0] at hcon
    exact hcon
  | true =>
    rw [h0] at hcon
    refine fun w S args hw hargs => (hcon w S args hw hargs).mono ?_
    rintro e w' ⟨c, rfl, hb, hv⟩
    refine ⟨c, rfl, hb, ?_⟩
    obtain ⟨ys, rfl, hl⟩ := hv.tupleI
    refine .tuple _ ys hl.1 fun i x y hx hy => ?_
    match i with
    | 0 =>
      cases hx
      have := hl.2 0 _ y rfl hy
      exact nz_rel this
    | 1 => cases hx; exact hl.2 1 _ y rfl hy
    | 2 => cases hx; exact hl.2 2 _ y rfl hy
    | i + 3 => cases hx
abbrev tw1 : List UInt8 := [102, 117, 110, 99, 32, 109, 97, 105, 110, 40, 41, 32, 123, 32, 112, 114, 105, 110, 116, 32, 49, 32, 43, 32, 50, 59, 32, 125]
abbrev tw2 : List UInt8 := [102, 117, 110, 99]
/-- A text's answer, all of it. -/
noncomputable def outP (t : List UInt8) (n : Nat) : Option PR := match Lx.cutAll t with
  | (ws, none) => (pn (wL (Lx.endW t ws)) n 13 .u 0 0 0 0).map norm7
  | _ => none
theorem outP_ok {t : List UInt8} (hs : t.length ≤ 16384) {n : Nat} {r : PR} (h : outP t n = some r) : P7 t r := by
  unfold outP at h
  split at h
  · rename_i ws hc
    cases hr : pn (wL (Lx.endW t ws)) n 13 .u 0 0 0 0 with
    | none => rw [hr] at h; cases h
    | some r' =>
      rw [hr] at h
      cases h
      exact P7_norm hs hc hr
  · cases h
abbrev nS (l : List UInt8) : ByteArray := ⟨⟨l⟩⟩
abbrev wR1 : PR := ⟨false, 0, 0, nS [112, 114, 111, 103, 114, 97, 109], b0, .cons (nS [102, 117, 110, 99]) (nS [109, 97, 105, 110]) 0 (.cons (nS [112, 97, 114, 97, 109, 115]) b0 10 .nil (.cons (nS [110, 111, 110, 101]) b0 12 .nil (.cons (nS [98, 108, 111, 99, 107]) b0 12 (.cons (nS [112, 114, 105, 110, 116]) b0 14 (.cons (nS [98, 105, 110, 97, 114, 121]) (nS [43]) 22 (.cons (nS [110, 117, 109, 98, 101, 114]) (nS [49]) 20 .nil (.cons (nS [110, 117, 109, 98, 101, 114]) (nS [50]) 24 .nil .nil)) .nil) .nil) .nil))) .nil, 0, 0, 0, 0⟩
abbrev wR2 : PR := ⟨false, 0, 0, b0, b0, .nil, 0, 0, 6, 4⟩
theorem outP1 : outP tw1 100 = some wR1 := by kernel_rfl
theorem outP2 : outP tw2 100 = some wR2 := by kernel_rfl
noncomputable def fA (t : List UInt8) : PR := bif Nat.beq t.length 4 then wR2 else wR1
theorem awake_run : runQ Tryd.prog Lx.lq (nA (andG 7 (pE fA) noG)) (nK (andG 7 (pE fA) noG)) noLK 1 Tryd.f6 [] = bif Lx.tE then bif tst (P7 tw1 wR1) then bif Lx.tE then bif tst (P7 tw2 wR2) then some (.bool true) else none else none else none else none := by kernel_rfl
theorem awake_con : ConQ Tryd.prog Lx.lq 6 [] (.bool true) := by
  have hF : TabQ Tryd.prog Lx.lq (andG 7 (pE fA) noG) := by
    refine andQ_ok Tryd.func7 rfl (by kernel_rfl) (fun ar v h => ?_) noQ_ok
    unfold pE at h
    split at h
    · rename_i s
      simp only [Option.some.injEq, Prod.mk.injEq] at h
      obtain ⟨ht, rfl⟩ := h
      exact of_tst ht
    · cases h
  refine conQ hmix (nA_ok hF) (nK_ok _) noLK_ok Tryd.func6 rfl (by kernel_rfl) noLO_ok (d := 1) ?_
  rw [awake_run, Lx.tE_t, tst_of (outP_ok (by decide) outP1), tst_of (outP_ok (by decide) outP2)]
  rfl
end Go.Proofs.YtachednafdmmaaaDoor.AI
