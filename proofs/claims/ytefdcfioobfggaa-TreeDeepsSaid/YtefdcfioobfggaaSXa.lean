/- Chains of signs. -/
import Derived.Test.YtefdcfioobfggaaProg
import Derived.Test.YtefdcfioobfggaaAIlo
import Derived.KernelRfl
namespace Go.Proofs.Ytefdcfioobfggaa.AI
open Go Go.RowKit 
set_option linter.unusedVariables false
set_option linter.unusedSimpArgs false
theorem hmix : Try.prog.follows .mixedOrders = true := by kernel_rfl
abbrev st (l : List UInt8) : Value := .string ⟨⟨l⟩⟩
abbrev iv (n : Int) : Value := .int .i64 n
abbrev nilV : Value := .slice none 0 0
def l0 : VTabs := []
theorem l0_g : GTab l0 := fun x hx => by cases hx
noncomputable abbrev qA (F : TabF) (ins : List Nat) : CallA := mixA ins (callA Try.prog (glV l0) (regF Try.prog (glV l0)) 60 false) (sumQ (glV l0) l0 (fun _ => 1) F)
noncomputable abbrev qK {R : Type} (F : TabF) (ins : List Nat) : CK R := mixK ins (inK Try.prog (glV l0) (regF Try.prog (glV l0)) 60) (sumQK (glV l0) l0 (fun _ => 1) F)
theorem qA_ok {F : TabF} (hF : TabQ Try.prog l0 F) (ins : List Nat) : CallOK Try.prog (glV l0) (qA F ins) := mixA_ok (callA_ok (regF_ok hmix) 60).1 (sumQ_ok l0_g _ hF)
theorem qK_ok {R : Type} (F : TabF) (ins : List Nat) : CKok (R := R) (qA F ins) (qK F ins) := mixK_ok (inK_ok 60) (sumQK_ok _ _ _ _)
noncomputable abbrev RF (F : TabF) (ins : List Nat) (LK : LoopK Value) (fn : Func) (ar : List Value) : Option Value := runQ Try.prog l0 (qA F ins) (qK F ins) LK 1 fn ar
abbrev kNum : List UInt8 := [110, 117, 109, 98, 101, 114]
abbrev kUn : List UInt8 := [117, 110, 97, 114, 121]
abbrev gv (cs : List Value) : Value := gslV 1 0 false cs
abbrev leafC : List Value := [st kNum, st [49], iv 0, gslV 0 0 false []]
abbrev unC (sign : List UInt8) (cs : List Value) : List Value := [st kUn, st sign, iv 0, gv cs]
abbrev ag (cs : List Value) : Value := .agg ⟨cs⟩
/-- A chain of signs, as cells. -/
def frC (sign : List UInt8) : Nat → List Value
  | 0 => leafC
  | k + 1 => unC sign (frC sign k)
def owC (sign : List UInt8) : Nat → List Value
  | 0 => [st kNum, st [49], iv 0, nilV]
  | k + 1 => unC sign (frC sign k)
theorem frC_g (s : List UInt8) : ∀ k, ∀ x ∈ frC s k, GVal x
  | 0, x, hx => by
    simp only [frC, leafC, List.mem_cons, List.not_mem_nil, or_false] at hx
    rcases hx with rfl | rfl | rfl | rfl
    · exact .plain _ rfl
    · exact .plain _ rfl
    · exact .plain _ rfl
    · exact .gsl _ _ _ _ (fun x hx => by cases hx)
  | k + 1, x, hx => by
    simp only [frC, unC, List.mem_cons, List.not_mem_nil, or_false] at hx
    rcases hx with rfl | rfl | rfl | rfl
    · exact .plain _ rfl
    · exact .plain _ rfl
    · exact .plain _ rfl
    · exact .gsl _ _ _ _ (frC_g s k)
theorem gv_g (s : List UInt8) (k : Nat) : GVal (gv (frC s k)) := .gsl _ _ _ _ (frC_g s k)
theorem nil_g : GVal (gslV 0 0 false []) := .gsl _ _ _ _ (fun x hx => by cases hx)
theorem i64w' (a : Int) : IntKind.i64.wrap a = (a + 9223372036854775808) % 18446744073709551616 - 9223372036854775808 := i64w a
/-- What is shown, so deep. -/
def shN (s : List UInt8) : Nat → Nat → List UInt8
  | 0, d => if 200 ≤ d then [] else [49]
  | k + 1, d => if 200 ≤ d then [] else 40 :: (s ++ [32] ++ shN s k (d + 1) ++ [41])
theorem shN_len {s : List UInt8} (hs : s.length ≤ 5) : ∀ k d, (shN s k d).length ≤ 8 * k + 1
  | 0, d => by unfold shN; split <;> simp
  | k + 1, d => by
    unfold shN
    split
    · simp
    · have := shN_len hs k (d + 1)
      simp only [List.length_cons, List.length_append, List.length_nil]; omega
abbrev insN : List Nat := [19, 23, 39, 43, 44, 52, 53, 58]
noncomputable def nE (X : List Value) (r : Int → List UInt8) (ar : List Value) : Option (Bool × Value) := match ar with
  | [.agg ⟨[.int .i64 d]⟩, .agg ⟨cs⟩] => some (tst (cs = X ∧ 0 ≤ d ∧ d ≤ 1000), st (r d))
  | _ => none
theorem nE_some {X : List Value} {r : Int → List UInt8} {ar : List Value} {v : Value} (h : nE X r ar = some (true, v)) : ∃ d : Nat, d ≤ 1000 ∧ ar = [ag [iv (d : Nat)], ag X] ∧ v = st (r (d : Nat)) := by
  unfold nE at h
  split at h
  · rename_i d cs
    obtain ⟨ht, rfl⟩ := Prod.mk.inj (Option.some.inj h)
    obtain ⟨rfl, h0, h1⟩ := of_tst ht
    obtain ⟨m, rfl⟩ : ∃ m : Nat, d = m := ⟨d.toNat, by omega⟩
    exact ⟨m, by omega, rfl, rfl⟩
  · cases h
theorem conF {F : TabF} (hF : TabQ Try.prog l0 F) (ins : List Nat) {g : FuncId} {fn : Func} {c : Code} {ar : List Value} {v : Value} (hfn : Try.prog.funcs[g]? = some fn) (hb : fn.body = some c) (hname : (fn.name == "runtime.NumGoroutine") = false) (hr : RF F ins noLK fn ar = some v) : ConQ Try.prog l0 g ar v :=
  conQ hmix (qA_ok hF ins) (qK_ok F ins) noLK_ok hfn hb hname noLO_ok hr
abbrev over (n : Nat) : Bool := decide ((n : Int) > IntKind.i64.max)
theorem over_f {n : Nat} (h : n ≤ 1000000) : over n = false := by
  have hmax : IntKind.i64.max = 9223372036854775807 := by decide
  refine decide_eq_false ?_
  rw [hmax]; omega
noncomputable abbrev xT (s r : List UInt8) (g : Value) (p : Prop) : Option Value := bif over (1 + s.length) then none else bif over (s.length + 1 + 1) then none else bif tst (GVal g) then bif tst p then bif over ((s ++ [32]).length + 1 + r.length) then none else bif over ((s ++ [32] ++ r).length + 1 + 1) then none else some (st (40 :: (s ++ [32] ++ r ++ [41]))) else none else none
set_option maxRecDepth 100000 in
theorem tx0 (d : Int) (s : List UInt8) (r : Int → List UInt8) : RF (andG 15 (nE leafC r) noG) [] noLK Try.f24 [ag [iv d], ag (unC s leafC)] = xT s (r d) (gslV 0 0 false []) (leafC = leafC ∧ 0 ≤ d ∧ d ≤ 1000) := by kernel_rfl
set_option maxRecDepth 100000 in
theorem tx1 (d : Int) (s : List UInt8) (Y : List Value) (r : Int → List UInt8) : RF (andG 15 (nE (unC s Y) r) noG) [] noLK Try.f24 [ag [iv d], ag (unC s (unC s Y))] = xT s (r d) (gv Y) (unC s Y = unC s Y ∧ 0 ≤ d ∧ d ≤ 1000) := by kernel_rfl
noncomputable abbrev nT (d : Int) (X : List Value) (Z : List Value) (r : Int → List UInt8) : Option Value := bif decide (IntKind.wrap IntKind.i64 (d + 1) > 200) then some (st []) else bif tst (GVal (gv X)) then bif tst (Z = Z ∧ 0 ≤ IntKind.wrap IntKind.i64 (d + 1) ∧ IntKind.wrap IntKind.i64 (d + 1) ≤ 1000) then some (st (r (IntKind.wrap IntKind.i64 (d + 1)))) else none else none
set_option maxRecDepth 100000 in
theorem tn0 (d : Int) : RF noG insN noLK Try.f15 [ag [iv d], ag leafC] = (bif decide (IntKind.wrap IntKind.i64 (d + 1) > 200) then some (st []) else some (st [49])) ∧ RF noG insN noLK Try.f15 [ag [iv d], ag [st kNum, st [49], iv 0, nilV]] = (bif decide (IntKind.wrap IntKind.i64 (d + 1) > 200) then some (st []) else some (st [49])) := ⟨by kernel_rfl, by kernel_rfl⟩
set_option maxRecDepth 100000 in
theorem tn1 (d : Int) (s : List UInt8) (r : Int → List UInt8) : RF (andG 24 (nE (unC s leafC) r) noG) insN noLK Try.f15 [ag [iv d], ag (unC s leafC)] = nT d leafC (unC s leafC) r := by kernel_rfl
set_option maxRecDepth 100000 in
theorem tn2 (d : Int) (s : List UInt8) (Y : List Value) (r : Int → List UInt8) : RF (andG 24 (nE (unC s (unC s Y)) r) noG) insN noLK Try.f15 [ag [iv d], ag (unC s (unC s Y))] = nT d (unC s Y) (unC s (unC s Y)) r := by kernel_rfl
theorem wr1 {d : Nat} (h : d ≤ 1000) : IntKind.wrap IntKind.i64 ((d : Int) + 1) = ((d + 1 : Nat) : Int) := by rw [i64w]; omega
theorem xT_ok {s r : List UInt8} (hs : s.length ≤ 5) (hr : r.length ≤ 10000) {g : Value} (hg : GVal g) {p : Prop} (hp : p) : xT s r g p = some (st (40 :: (s ++ [32] ++ r ++ [41]))) := by
  unfold xT
  rw [over_f (by omega), over_f (by omega), tst_of hg, tst_of hp, over_f (by simp; omega), over_f (by simp; omega)]; rfl
abbrev rN (s : List UInt8) (k : Nat) (d : Int) : List UInt8 := shN s k d.toNat
abbrev rX (s : List UInt8) (k : Nat) (d : Int) : List UInt8 := 40 :: (s ++ [32] ++ shN s k d.toNat ++ [41])
theorem node_con {s : List UInt8} (hs : s.length ≤ 5) : ∀ k, k ≤ 1000 → ∀ ar v, nE (frC s k) (rN s k) ar = some (true, v) → ConQ Try.prog l0 15 ar v
  | 0, _, ar, v, h => by
    obtain ⟨d, hd, rfl, rfl⟩ := nE_some h
    refine conF noQ_ok insN Try.func15 rfl (by kernel_rfl) ((tn0 d).1.trans ?_)
    rw [wr1 hd, rN, Int.toNat_natCast, shN]
    by_cases h2 : 200 ≤ d
    · rw [if_pos h2, decide_eq_true (show ((d + 1 : Nat) : Int) > 200 by omega)]; rfl
    · rw [if_neg h2, decide_eq_false (show ¬ ((d + 1 : Nat) : Int) > 200 by omega)]; rfl
  | k + 1, hk, ar, v, h => by
    obtain ⟨d, hd, rfl, rfl⟩ := nE_some h
    have hlen := shN_len hs k
    -- the expression
    have hx : ∀ ar v, nE (unC s (frC s k)) (rX s k) ar = some (true, v) → ConQ Try.prog l0 24 ar v := fun ar v h => by
      obtain ⟨e, he, rfl, rfl⟩ := nE_some h
      have hF : TabQ Try.prog l0 (andG 15 (nE (frC s k) (rN s k)) noG) := andQ_ok Try.func15 rfl (by kernel_rfl) (node_con hs k (by omega)) noQ_ok
      have hl : (rN s k (e : Nat)).length ≤ 10000 := by have := hlen ((e : Nat) : Int).toNat; unfold rN; omega
      have key : RF (andG 15 (nE (frC s k) (rN s k)) noG) [] noLK Try.f24 [ag [iv (e : Nat)], ag (unC s (frC s k))] = some (st (rX s k (e : Nat))) := by
        cases k with
        | zero => exact (tx0 (e : Nat) s (rN s 0)).trans (xT_ok hs hl nil_g ⟨rfl, by omega, by omega⟩)
        | succ j => exact (tx1 (e : Nat) s (frC s j) (rN s (j + 1))).trans (xT_ok hs hl (gv_g s j) ⟨rfl, by omega, by omega⟩)
      exact conF hF [] Try.func24 rfl (by kernel_rfl) key
    have hF : TabQ Try.prog l0 (andG 24 (nE (unC s (frC s k)) (rX s k)) noG) := andQ_ok Try.func24 rfl (by kernel_rfl) hx noQ_ok
    have hT : nT (d : Nat) (frC s k) (unC s (frC s k)) (rX s k) = some (st (rN s (k + 1) (d : Nat))) := by
      unfold nT
      rw [wr1 hd, rN, Int.toNat_natCast, shN]
      by_cases h2 : 200 ≤ d
      · rw [if_pos h2, decide_eq_true (show ((d + 1 : Nat) : Int) > 200 by omega)]; rfl
      · rw [if_neg h2, decide_eq_false (show ¬ ((d + 1 : Nat) : Int) > 200 by omega), tst_of (gv_g s k), tst_of ⟨rfl, by omega, by omega⟩, rX, Int.toNat_natCast]; rfl
    have key : RF (andG 24 (nE (unC s (frC s k)) (rX s k)) noG) insN noLK Try.f15 [ag [iv (d : Nat)], ag (frC s (k + 1))] = some (st (rN s (k + 1) (d : Nat))) := by
      cases k with
      | zero => exact (tn1 (d : Nat) s (rX s 0)).trans hT
      | succ j => exact (tn2 (d : Nat) s (frC s j) (rX s (j + 1))).trans hT
    exact conF hF insN Try.func15 rfl (by kernel_rfl) key
/-- The whole is shown. -/
theorem node0_con (s : List UInt8) : ∀ ar v, nE (owC s 0) (rN s 0) ar = some (true, v) → ConQ Try.prog l0 15 ar v := fun ar v h => by
  obtain ⟨d, hd, rfl, rfl⟩ := nE_some h
  refine conF noQ_ok insN Try.func15 rfl (by kernel_rfl) ((tn0 d).2.trans ?_)
  rw [wr1 hd, rN, Int.toNat_natCast, shN]
  by_cases h2 : 200 ≤ d
  · rw [if_pos h2, decide_eq_true (show ((d + 1 : Nat) : Int) > 200 by omega)]; rfl
  · rw [if_neg h2, decide_eq_false (show ¬ ((d + 1 : Nat) : Int) > 200 by omega)]; rfl
theorem t7 (s : List UInt8) (Y : List Value) (r : Int → List UInt8) : RF (andG 15 (nE (unC s Y) r) noG) [] noLK Try.f7 [ag (unC s Y)] = (bif tst (GVal (gv Y)) then bif tst (unC s Y = unC s Y ∧ (0 : Int) ≤ 0 ∧ (0 : Int) ≤ 1000) then some (st (r 0)) else none else none) := by kernel_rfl
theorem t70 (r : Int → List UInt8) : RF (andG 15 (nE [st kNum, st [49], iv 0, nilV] r) noG) [] noLK Try.f7 [ag [st kNum, st [49], iv 0, nilV]] = (bif tst ([st kNum, st [49], iv 0, nilV] = [st kNum, st [49], iv 0, nilV] ∧ (0 : Int) ≤ 0 ∧ (0 : Int) ≤ 1000) then some (st (r 0)) else none) := by kernel_rfl
theorem show_con {s : List UInt8} (hs : s.length ≤ 5) : ∀ n, n ≤ 1000 → ConQ Try.prog l0 7 [ag (owC s n)] (st (shN s n 0))
  | 0, _ => by
    have hF : TabQ Try.prog l0 (andG 15 (nE (owC s 0) (rN s 0)) noG) := andQ_ok Try.func15 rfl (by kernel_rfl) (node0_con s) noQ_ok
    exact conF hF [] Try.func7 rfl (by kernel_rfl) ((t70 (rN s 0)).trans (by rw [tst_of ⟨rfl, by omega, by omega⟩]; rfl))
  | n + 1, hn => by
    have hF : TabQ Try.prog l0 (andG 15 (nE (frC s (n + 1)) (rN s (n + 1))) noG) := andQ_ok Try.func15 rfl (by kernel_rfl) (node_con hs (n + 1) hn) noQ_ok
    exact conF hF [] Try.func7 rfl (by kernel_rfl) ((t7 s (frC s n) (rN s (n + 1))).trans (by rw [tst_of (gv_g s n), tst_of ⟨rfl, by omega, by omega⟩]; rfl))
/-- How deep, how great. -/
noncomputable def dE (X : List Value) (r : Int) (ar : List Value) : Option (Bool × Value) := match ar with
  | [.agg ⟨cs⟩] => some (tst (cs = X), iv r)
  | _ => none
theorem dE_some {X : List Value} {r : Int} {ar : List Value} {v : Value} (h : dE X r ar = some (true, v)) : ar = [ag X] ∧ v = iv r := by
  unfold dE at h
  split at h
  · obtain ⟨ht, rfl⟩ := Prod.mk.inj (Option.some.inj h)
    rw [of_tst ht]; exact ⟨rfl, rfl⟩
  · cases h
noncomputable abbrev RD (g : Nat) (fn : Func) (F : TabF) (X : List Value) := RF F [] (lkIt Try.prog (glV l0) (qA F []) (qK F []) noLK 5) fn [ag X]
abbrev own0 : List Value := [st kNum, st [49], iv 0, nilV]
theorem d0 : (RD 9 Try.f9 noG leafC = some (iv 1) ∧ RD 9 Try.f9 noG own0 = some (iv 1)) ∧ (RD 8 Try.f8 noG leafC = some (iv 1) ∧ RD 8 Try.f8 noG own0 = some (iv 1)) := ⟨⟨by kernel_rfl, by kernel_rfl⟩, ⟨by kernel_rfl, by kernel_rfl⟩⟩
noncomputable abbrev qT (Xg : Value) (Z : List Value) (x : Value) : Option Value := bif tst (GVal Xg) then bif tst (Z = Z) then some x else none else none
theorem d9a (s : List UInt8) (r : Int) : RD 9 Try.f9 (andG 9 (dE leafC r) noG) (unC s leafC) = qT (gslV 0 0 false []) leafC (iv (IntKind.wrap IntKind.i64 ((if r > 0 then r else 0) + 1))) := by kernel_rfl
theorem d9b (s : List UInt8) (Y : List Value) (r : Int) : RD 9 Try.f9 (andG 9 (dE (unC s Y) r) noG) (unC s (unC s Y)) = qT (gv Y) (unC s Y) (iv (IntKind.wrap IntKind.i64 ((if r > 0 then r else 0) + 1))) := by kernel_rfl
theorem d8a (s : List UInt8) (r : Int) : RD 8 Try.f8 (andG 8 (dE leafC r) noG) (unC s leafC) = qT (gslV 0 0 false []) leafC (iv (IntKind.wrap IntKind.i64 (1 + r))) := by kernel_rfl
theorem d8b (s : List UInt8) (Y : List Value) (r : Int) : RD 8 Try.f8 (andG 8 (dE (unC s Y) r) noG) (unC s (unC s Y)) = qT (gv Y) (unC s Y) (iv (IntKind.wrap IntKind.i64 (1 + r))) := by kernel_rfl
theorem conD {F : TabF} (hF : TabQ Try.prog l0 F) {g : FuncId} {fn : Func} {c : Code} {X : List Value} {v : Value} (hfn : Try.prog.funcs[g]? = some fn) (hb : fn.body = some c) (hname : (fn.name == "runtime.NumGoroutine") = false) (hlo : ((loopsOf (bodyOf fn)).all fun c => (loopsOf c).isEmpty) = true) (hr : RD g fn F X = some v) : ConQ Try.prog l0 g [ag X] v :=
  conQ hmix (qA_ok hF []) (qK_ok F []) (lkIt_ok (qK_ok F []) noLK_ok 5) hfn hb hname (loIt_ok hmix (qA_ok hF []) (fun c hc => by
    have := List.all_eq_true.1 hlo c hc
    rw [List.isEmpty_iff.1 this]
    intro c' hc'; cases hc') 5) hr
theorem deep_con (s : List UInt8) : ∀ k, k ≤ 1000 → ConQ Try.prog l0 9 [ag (frC s k)] (iv ((k + 1 : Nat) : Int))
  | 0, _ => conD noQ_ok Try.func9 rfl (by kernel_rfl) (by kernel_rfl) d0.1.1
  | k + 1, hk => by
    have hF : TabQ Try.prog l0 (andG 9 (dE (frC s k) ((k + 1 : Nat) : Int)) noG) := andQ_ok Try.func9 rfl (by kernel_rfl) (fun ar v h => by obtain ⟨rfl, rfl⟩ := dE_some h; exact deep_con s k (by omega)) noQ_ok
    have e : IntKind.wrap IntKind.i64 ((if ((k + 1 : Nat) : Int) > 0 then ((k + 1 : Nat) : Int) else 0) + 1) = ((k + 1 + 1 : Nat) : Int) := by rw [if_pos (by omega), i64w]; omega
    refine conD hF Try.func9 rfl (by kernel_rfl) (by kernel_rfl) ?_
    cases k with
    | zero => exact (d9a s _).trans (by rw [qT, tst_of nil_g, tst_of rfl, e]; rfl)
    | succ j => exact (d9b s (frC s j) _).trans (by rw [qT, tst_of (gv_g s j), tst_of rfl, e]; rfl)
theorem size_con (s : List UInt8) : ∀ k, k ≤ 1000 → ConQ Try.prog l0 8 [ag (frC s k)] (iv ((k + 1 : Nat) : Int))
  | 0, _ => conD noQ_ok Try.func8 rfl (by kernel_rfl) (by kernel_rfl) d0.2.1
  | k + 1, hk => by
    have hF : TabQ Try.prog l0 (andG 8 (dE (frC s k) ((k + 1 : Nat) : Int)) noG) := andQ_ok Try.func8 rfl (by kernel_rfl) (fun ar v h => by obtain ⟨rfl, rfl⟩ := dE_some h; exact size_con s k (by omega)) noQ_ok
    have e : IntKind.wrap IntKind.i64 (1 + ((k + 1 : Nat) : Int)) = ((k + 1 + 1 : Nat) : Int) := by rw [i64w]; omega
    refine conD hF Try.func8 rfl (by kernel_rfl) (by kernel_rfl) ?_
    cases k with
    | zero => exact (d8a s _).trans (by rw [qT, tst_of nil_g, tst_of rfl, e]; rfl)
    | succ j => exact (d8b s (frC s j) _).trans (by rw [qT, tst_of (gv_g s j), tst_of rfl, e]; rfl)
theorem deepo_con (s : List UInt8) : ∀ n, n ≤ 1000 → ConQ Try.prog l0 9 [ag (owC s n)] (iv ((n + 1 : Nat) : Int))
  | 0, _ => conD noQ_ok Try.func9 rfl (by kernel_rfl) (by kernel_rfl) d0.1.2
  | n + 1, hn => deep_con s (n + 1) hn
theorem sizeo_con (s : List UInt8) : ∀ n, n ≤ 1000 → ConQ Try.prog l0 8 [ag (owC s n)] (iv ((n + 1 : Nat) : Int))
  | 0, _ => conD noQ_ok Try.func8 rfl (by kernel_rfl) (by kernel_rfl) d0.2.2
  | n + 1, hn => size_con s (n + 1) hn
abbrev ptV : Value := .pointer (some ⟨0, 0, none⟩)
noncomputable abbrev gvT {α : Type} (cs : List Value) (x : Option α) : Option α := bif tst (∀ v ∈ cs, GVal v) then x else none
abbrev hL (X : List Value) : AH := mkHV l0 [.row false 1 X]
abbrev RR := Option (XA × List Value × List Blk × Nat)
noncomputable abbrev RL (n i : Int) (s : List UInt8) (X : List Value) : RR := RZ Try.prog l0 (qA noG []) (qK noG []) noLK Try.f5 0 [0, 1, 5, 6] [0] [1] [iv n, st s, ptV, iv i] (hL X)
theorem la (n i : Int) (s : List UInt8) : RL n i s own0 = bif decide (i < n) then gvT own0 (some (.normal, [iv n, st s, ptV, iv (IntKind.wrap IntKind.i64 (i + 1))], [.row false 1 (unC s leafC)], 65)) else some (.exit 0, [iv n, st s, ptV, iv i], [.row false 1 own0], 65) := by kernel_rfl
theorem lb (n i : Int) (s : List UInt8) (Y : List Value) : RL n i s (unC s Y) = bif decide (i < n) then gvT (unC s Y) (some (.normal, [iv n, st s, ptV, iv (IntKind.wrap IntKind.i64 (i + 1))], [.row false 1 (unC s (unC s Y))], 65)) else some (.exit 0, [iv n, st s, ptV, iv i], [.row false 1 (unC s Y)], 65) := by kernel_rfl
theorem owC_g (s : List UInt8) : ∀ n, ∀ x ∈ owC s n, GVal x
  | 0, x, hx => by
    simp only [owC, List.mem_cons, List.not_mem_nil, or_false] at hx
    rcases hx with rfl | rfl | rfl | rfl <;> exact .plain _ rfl
  | n + 1, x, hx => frC_g s (n + 1) x hx
theorem gvT_ok {α : Type} {cs : List Value} (h : ∀ v ∈ cs, GVal v) (x : Option α) : gvT cs x = x := by unfold gvT; rw [tst_of h]; rfl
theorem l_tree (n i : Int) (s : List UInt8) : ∀ k, RL n i s (owC s k) = bif decide (i < n) then some (.normal, [iv n, st s, ptV, iv (IntKind.wrap IntKind.i64 (i + 1))], [.row false 1 (owC s (k + 1))], 65) else some (.exit 0, [iv n, st s, ptV, iv i], [.row false 1 (owC s k)], 65)
  | 0 => (la n i s).trans (by rw [gvT_ok (cs := own0) (owC_g s 0)]; rfl)
  | k + 1 => (lb n i s (frC s k)).trans (by rw [gvT_ok (cs := unC s (frC s k)) (frC_g s (k + 1))]; rfl)
def stL (n i : Nat) (s : List UInt8) : St := stT [0, 1, 5, 6] [iv (n : Nat), st s, ptV, iv (i : Nat)] 65 (hL (owC s i))
theorem loop1 (n : Nat) (s : List UInt8) (hn : n ≤ 1000) : LoopTri Try.prog (glV l0) (hV l0) (loopN Try.f5 0) (stL n 0 s) (.exit 0) (stL n n s) := by
  refine loop_rule (P := Try.prog) (X := {i : Nat // i ≤ n}) (regF_ok hmix) (qA_ok noQ_ok []) noLO_ok (c := loopN Try.f5 0) (hE := hV l0) (fun i => stL n i.1 s) (fun i => n - i.1) (fun _ => (.exit 0, stL n n s)) ?_ ⟨0, Nat.zero_le _⟩
  rintro ⟨i, hi⟩
  dsimp only
  have cov (j : Nat) {σ1 : St} {vs : List Value} {bs : List Blk} (h1 : σ1.n = 65) (h2 : σ1.ds = []) (h3 : picks [0, 1, 5, 6] σ1.T = some vs) (h4 : fzL σ1.h [1] vs = some [iv (n : Nat), st s, ptV, iv (j : Nat)]) (h5 : picksH [0] σ1.h = some bs) (h6 : fzB σ1.h [1] bs = some [.row false 1 (owC s j)]) : Covers (glV l0) (hV l0) (stL n j s) σ1 := by
    refine covers_HZ l0_g (ids := [0]) (I := [1]) (dl := [0]) h1 h2 h3 h4 h5 h6 (by decide) (by decide) (fun i _ => Nat.zero_le _) (fun i hi => ⟨Nat.zero_le _, by rw [List.mem_singleton.1 hi]; decide⟩) rfl ?_ ?_ ?_
    · exact .cons (.plain _ rfl) (.cons (.plain _ rfl) (.cons (.ptr 0 0 0 (show 0 < 0 + 1 by decide) rfl) (.cons (.plain _ rfl) .nil)))
    · intro m b b1 h0 h1
      match m with
      | 0 =>
        cases h0; cases h1
        refine ⟨rfl, rfl, Nat.zero_le _, rfl, fun q x y hx hy => ?_⟩
        have hy' : (owC s j)[q]? = some y := hy
        rw [hx] at hy'
        cases hy'
        exact .gv _ (owC_g s j x (List.mem_of_getElem? hx))
      | m + 1 => cases h0
    · intro b hb
      rw [List.mem_singleton.1 hb]; rfl
  have h := l_tree (n : Nat) (i : Nat) s i
  by_cases hlt : i < n
  · rw [decide_eq_true (show (i : Int) < (n : Int) by omega), cond_true, wr1 (by omega)] at h
    obtain ⟨σ1, vs, bs, g1, g2, g3, g4, g5, g6, g7⟩ := finHZ_some (qK_ok noG []) noLK_ok h
    exact ⟨_, σ1, g1, .inl ⟨rfl, ⟨i + 1, hlt⟩, by dsimp only; omega, rfl, cov (i + 1) g2 g3 g4 g5 g6 g7⟩⟩
  · obtain rfl : i = n := by omega
    rw [decide_eq_false (Int.lt_irrefl _), cond_false] at h
    obtain ⟨σ1, vs, bs, g1, g2, g3, g4, g5, g6, g7⟩ := finHZ_some (qK_ok noG []) noLK_ok h
    exact ⟨_, σ1, g1, .inr ⟨by simp, rfl, cov i g2 g3 g4 g5 g6 g7⟩⟩
/-- The text that is wanted. -/
def wnt (s : List UInt8) (w : List UInt8) : Nat → List UInt8
  | 0 => w
  | j + 1 => 40 :: (s ++ [32] ++ wnt s w j ++ [41])
theorem wnt_len {s w : List UInt8} (hs : s.length ≤ 5) (hw : w.length ≤ 1) : ∀ j, (wnt s w j).length ≤ 8 * j + 1
  | 0 => hw
  | j + 1 => by
    have := wnt_len hs hw j
    unfold wnt
    simp only [List.length_cons, List.length_append, List.length_nil]; omega
abbrev vs2 (n m : Int) (s w : List UInt8) (i : Int) : List Value := [iv n, st s, ptV, st w, iv m, iv i]
theorem lc (n i m : Int) (s w : List UInt8) (h : AH) : bodyRunK Try.prog (glV l0) (qA noG []) (qK noG []) noLK (loopN Try.f5 1) (stT [0, 1, 5, 7, 8, 9] (vs2 n m s w i) 65 h) [0, 1, 5, 7, 8, 9] =
    bif decide (i < m) then bif over (1 + s.length) then none else bif over (s.length + 1 + 1) then none else bif over ((s ++ [32]).length + 1 + w.length) then none else bif over ((s ++ [32] ++ w).length + 1 + 1) then none else some (.normal, vs2 n m s (40 :: (s ++ [32] ++ w ++ [41])) (IntKind.wrap IntKind.i64 (i + 1)), h, 65) else some (.exit 2, vs2 n m s w i, h, 65) := by kernel_rfl
theorem loop2 (n : Int) (m : Nat) {s w : List UInt8} (hs : s.length ≤ 5) (hw : w.length ≤ 1) (hm : m ≤ 1000) (h : AH) : LoopTri Try.prog (glV l0) (hV l0) (loopN Try.f5 1) (stT [0, 1, 5, 7, 8, 9] (vs2 n (m : Nat) s w ((0 : Nat) : Int)) 65 h) (.exit 2) (stT [0, 1, 5, 7, 8, 9] (vs2 n (m : Nat) s (wnt s w m) (m : Nat)) 65 h) := by
  refine loop_plainO hmix (qA_ok noQ_ok []) (qK_ok noG []) noLK_ok noLO_ok (c := loopN Try.f5 1) [0, 1, 5, 7, 8, 9] (X := {i : Nat // i ≤ m}) (fun i => vs2 n (m : Nat) s (wnt s w i.1) (i.1 : Nat)) (fun i => m - i.1) (fun _ => (.exit 2, vs2 n (m : Nat) s (wnt s w m) (m : Nat))) (fun ⟨i, hi⟩ => ?_) ⟨0, Nat.zero_le _⟩
  dsimp only
  have ht := lc n (i : Nat) (m : Nat) s (wnt s w i) h
  by_cases hlt : i < m
  · have hl := wnt_len hs hw i
    rw [decide_eq_true (show (i : Int) < (m : Int) by omega), over_f (by omega), over_f (by omega), over_f (by simp; omega), over_f (by simp; omega), wr1 (by omega)] at ht
    exact ⟨_, _, ht, .inl ⟨rfl, ⟨i + 1, hlt⟩, rfl, by dsimp only; omega, rfl⟩⟩
  · obtain rfl : i = m := by omega
    rw [decide_eq_false (Int.lt_irrefl _)] at ht
    exact ⟨_, _, ht, .inr ⟨by simp, rfl⟩⟩
theorem shN_wnt (s : List UInt8) : ∀ k d, shN s k d = if d + k < 200 then wnt s [49] k else wnt s [] (200 - d)
  | 0, d => by
    unfold shN
    by_cases h : 200 ≤ d
    · rw [if_pos h, if_neg (by omega), show 200 - d = 0 by omega]; rfl
    · rw [if_neg h, if_pos (by omega)]; rfl
  | k + 1, d => by
    unfold shN
    by_cases h : 200 ≤ d
    · rw [if_pos h, if_neg (by omega), show 200 - d = 0 by omega]; rfl
    · rw [if_neg h, shN_wnt s k (d + 1)]
      by_cases h2 : d + 1 + k < 200
      · rw [if_pos h2, if_pos (by omega)]; rfl
      · rw [if_neg h2, if_neg (by omega), show 200 - d = (200 - (d + 1)) + 1 by omega]; rfl
set_option maxRecDepth 100000 in
theorem awake_run : okA (callA Try.prog gl0 (regF Try.prog gl0) 200 false 6 [] h0) = true := by kernel_rfl
def awE (ar : List Value) : Option (Bool × Value) := match ar with
  | [] => some (true, .bool true)
  | _ => none
noncomputable def sE (X : List Value) (r : List UInt8) (ar : List Value) : Option (Bool × Value) := match ar with
  | [.agg ⟨cs⟩] => some (tst (cs = X), st r)
  | _ => none
noncomputable def GX (X : List Value) (r : List UInt8) (a : Int) : TabF := andG 6 awE <| andG 7 (sE X r) <| andG 9 (dE X a) <| andG 8 (dE X a) noG
theorem GX_ok {s : List UInt8} (hs : s.length ≤ 5) {n : Nat} (hn : n ≤ 1000) : TabQ Try.prog l0 (GX (owC s n) (shN s n 0) ((n + 1 : Nat) : Int)) :=
  andQ_ok Try.func6 rfl (by kernel_rfl) (fun ar v h => by
    unfold awE at h
    split at h
    · cases h
      exact conQ_plain rfl rfl fun w _ _ => closed_law (regF_ok hmix) awake_run rfl w
    · cases h) <|
  andQ_ok Try.func7 rfl (by kernel_rfl) (fun ar v h => by
    unfold sE at h
    split at h
    · obtain ⟨ht, rfl⟩ := Prod.mk.inj (Option.some.inj h)
      rw [of_tst ht]
      exact show_con hs n hn
    · cases h) <|
  andQ_ok Try.func9 rfl (by kernel_rfl) (fun ar v h => by obtain ⟨rfl, rfl⟩ := dE_some h; exact deepo_con s n hn) <|
  andQ_ok Try.func8 rfl (by kernel_rfl) (fun ar v h => by obtain ⟨rfl, rfl⟩ := dE_some h; exact sizeo_con s n hn) noQ_ok
noncomputable abbrev f1 (n : Int) (s : List UInt8) (X : List Value) : List Value → AH → Nat → Option (Bool × XA × St) := fun vs h z => some (tst (vs = [iv n, st s, ptV, iv 0] ∧ h = hL own0 ∧ z = 65), .exit 0, stT [0, 1, 5, 6] [iv n, st s, ptV, iv n] 65 (hL X))
noncomputable abbrev f2 (n m : Int) (s w w' : List UInt8) (X : List Value) : List Value → AH → Nat → Option (Bool × XA × St) := fun vs h z => some (tst (vs = vs2 n m s w 0 ∧ h = hL X ∧ z = 65), .exit 2, stT [0, 1, 5, 7, 8, 9] (vs2 n m s w' m) 65 (hL X))
noncomputable abbrev RM (n m a : Int) (s w w' r : List UInt8) (X : List Value) := RF (GX X r a) [] (lkQ 7 [0, 1, 5, 6] (f1 n s X) (lkQ 16 [0, 1, 5, 7, 8, 9] (f2 n m s w w' X) noLK)) Try.f5 [iv n, st s]
abbrev bT : Option Value := some (.bool true)
abbrev bF : Option Value := some (.bool false)
noncomputable abbrev gE (g : Value) (X : List Value) (x : Option Value) : Option Value := bif tst (GVal g) then bif tst (X = X) then x else none else none
noncomputable abbrev fin1 (n a : Int) (w' r : List UInt8) (g : Option Value → Option Value) : Option Value := g (bif r == w' then g (bif a == IntKind.wrap IntKind.i64 (n + 1) then g (bif a == IntKind.wrap IntKind.i64 (n + 1) then bT else bF) else bF) else bF)
noncomputable abbrev mT (n m a : Int) (s w w' r : List UInt8) (X : List Value) (g : Option Value → Option Value) : Option Value :=
  bif decide (n < 0) then bT else bif decide (n > 400) then bT else bif decide ((s.length : Int) > 5) then bT else bif tst ([iv n, st s, ptV, iv 0] = [iv n, st s, ptV, iv 0] ∧ hL own0 = hL own0 ∧ 65 = 65) then
    bif decide (n ≥ 200) then (bif tst (vs2 n 200 s [] 0 = vs2 n m s w 0 ∧ hL X = hL X ∧ 65 = 65) then fin1 n a w' r g else none) else (bif tst (vs2 n n s [49] 0 = vs2 n m s w 0 ∧ hL X = hL X ∧ 65 = 65) then fin1 n a w' r g else none) else none
set_option maxRecDepth 100000 in
theorem tm1 (n m a : Int) (s w w' r : List UInt8) (Y : List Value) : RM n m a s w w' r (unC s Y) = mT n m a s w w' r (unC s Y) (gE (gv Y) (unC s Y)) := by kernel_rfl
set_option maxRecDepth 100000 in
theorem tm0 (n m a : Int) (s w w' r : List UInt8) : RM n m a s w w' r own0 = mT n m a s w w' r own0 (fun x => bif tst (own0 = own0) then x else none) := by kernel_rfl
theorem loops5 : loopsOf (bodyOf Try.f5) = [loopN Try.f5 0, loopN Try.f5 1] := by kernel_rfl
theorem reg5 : (isReg 7 (loopN Try.f5 1), isReg 16 (loopN Try.f5 0)) = (false, false) := by kernel_rfl
theorem mT_tree {s : List UInt8} (n : Nat) (m a : Int) (n' : Int) (w w' r : List UInt8) : ∃ g : Option Value → Option Value, (∀ x, g x = x) ∧ RM n' m a s w w' r (owC s n) = mT n' m a s w w' r (owC s n) g := by
  cases n with
  | zero => exact ⟨_, fun x => by rw [tst_of rfl]; rfl, tm0 n' m a s w w' r⟩
  | succ k => exact ⟨_, fun x => by unfold gE; rw [tst_of (gv_g s k), tst_of rfl]; rfl, tm1 n' m a s w w' r (frC s k)⟩
theorem deeps_con (n : Int) (s : List UInt8) : ConQ Try.prog l0 5 [iv n, st s] (.bool true) := by
  -- where nothing is asked
  by_cases hout : n < 0 ∨ n > 400 ∨ s.length > 5
  · obtain ⟨g, _, ht⟩ := mT_tree (s := []) 0 0 0 n [] [] []
    have key : RF (GX (owC [] 0) (shN [] 0 0) ((0 + 1 : Nat) : Int)) [] noLK Try.f5 [iv n, st s] = bT := by
      have h : RF (GX own0 [49] 1) [] noLK Try.f5 [iv n, st s] = (bif decide (n < 0) then bT else bif decide (n > 400) then bT else bif decide ((s.length : Int) > 5) then bT else none) := by kernel_rfl
      refine Eq.trans h ?_
      rcases hout with h | h | h
      · rw [decide_eq_true h]; rfl
      · rw [decide_eq_true h]; cases decide (n < 0) <;> rfl
      · rw [decide_eq_true (show (s.length : Int) > 5 by omega)]; cases decide (n < 0) <;> cases decide (n > 400) <;> rfl
    exact conF (GX_ok (s := []) (by simp) (n := 0) (by omega)) [] Try.func5 rfl (by kernel_rfl) key
  · obtain ⟨m, rfl⟩ : ∃ m : Nat, n = m := ⟨n.toNat, by omega⟩
    have hs : s.length ≤ 5 := by omega
    have hm : m ≤ 400 := by omega
    have hwr : IntKind.wrap IntKind.i64 ((m : Int) + 1) = ((m + 1 : Nat) : Int) := wr1 (by omega)
    -- the second loop's texts
    obtain ⟨q, w, hq, hw, hsh, hsel⟩ : ∃ (q : Nat) (w : List UInt8), q ≤ 400 ∧ w.length ≤ 1 ∧ shN s m 0 = wnt s w q ∧ ((200 ≤ m ∧ q = 200 ∧ w = []) ∨ (¬ 200 ≤ m ∧ q = m ∧ w = [49])) := by
      by_cases h : 200 ≤ m
      · exact ⟨200, [], by omega, by simp, by rw [shN_wnt, if_neg (by omega)], .inl ⟨h, rfl, rfl⟩⟩
      · exact ⟨m, [49], by omega, by simp, by rw [shN_wnt, if_pos (by omega)], .inr ⟨h, rfl, rfl⟩⟩
    obtain ⟨g, hg, ht⟩ := mT_tree (s := s) m (q : Nat) ((m + 1 : Nat) : Int) (m : Nat) w (wnt s w q) (shN s m 0)
    have key : RM (m : Nat) (q : Nat) ((m + 1 : Nat) : Int) s w (wnt s w q) (shN s m 0) (owC s m) = bT := by
      have hf : fin1 (m : Nat) ((m + 1 : Nat) : Int) (wnt s w q) (shN s m 0) g = bT := by
        unfold fin1
        rw [hg, hg, hg, hsh, beq_self_eq_true, hwr, beq_self_eq_true]; rfl
      rw [ht, mT, hf, decide_eq_false (show ¬ (m : Int) < 0 by omega), decide_eq_false (show ¬ (m : Int) > 400 by omega), decide_eq_false (show ¬ (s.length : Int) > 5 by omega), tst_of (⟨rfl, rfl, rfl⟩ : [iv (m : Nat), st s, ptV, iv 0] = [iv (m : Nat), st s, ptV, iv 0] ∧ hL own0 = hL own0 ∧ 65 = 65), cond_false, cond_false, cond_false, cond_true]
      rcases hsel with ⟨h1, rfl, rfl⟩ | ⟨h1, rfl, rfl⟩
      · rw [decide_eq_true (show (m : Int) ≥ 200 by omega), cond_true, tst_of ⟨rfl, rfl, rfl⟩]; rfl
      · rw [decide_eq_false (show ¬ (q : Int) ≥ 200 by omega), cond_false, tst_of ⟨rfl, rfl, rfl⟩]; rfl
    have rg := reg5
    simp only [Prod.mk.injEq] at rg
    refine conQ hmix (qA_ok (GX_ok hs (n := m) (by omega)) []) (qK_ok _ []) (lkQ_ok (lkQ_ok noLK_ok)) Try.func5 rfl (by kernel_rfl) (loQ_ok (fun c hc hr σ vs x σ' hd hp hf => ?_) (loQ_ok (fun c hc hr σ vs x σ' hd hp hf => ?_) noLO_ok)) key
    · simp only [f1, Option.some.injEq, Prod.mk.injEq] at hf
      obtain ⟨ht1, rfl, rfl⟩ := hf
      obtain ⟨rfl, hh, hz⟩ := of_tst ht1
      rw [loops5] at hc
      rcases List.mem_cons.1 hc with rfl | hc
      · exact (loop1 m s (by omega)).enter (covers_T hz (picks_mkT hp) hh.symm hd.symm)
      · rw [List.mem_singleton.1 hc, rg.1] at hr; cases hr
    · simp only [f2, Option.some.injEq, Prod.mk.injEq] at hf
      obtain ⟨ht1, rfl, rfl⟩ := hf
      obtain ⟨rfl, hh, hz⟩ := of_tst ht1
      rw [loops5] at hc
      rcases List.mem_cons.1 hc with rfl | hc
      · rw [rg.2] at hr; cases hr
      · rw [List.mem_singleton.1 hc]
        exact (loop2 (m : Nat) q hs hw (by omega) (hL (owC s m))).enter (covers_T hz (picks_mkT hp) hh.symm hd.symm)
theorem deeps_walk (n : Int) (a : ByteArray) (w : World) : Calls Try.prog 5 #[.int .i64 n, .string a] w fun e w' => e = .returned (.bool true) ∧ Below w.heap.size w w' := by
  obtain ⟨⟨s⟩⟩ := a
  refine (deeps_con n s w (fun _ => True) #[iv n, st s] (fun x hx => by cases hx) (.cons (.plain _ rfl) (.cons (.plain _ rfl) .nil))).mono ?_
  rintro e w' ⟨c, rfl, hb, hv⟩
  exact ⟨by rw [hv.plainV_eq rfl], hb⟩
end Go.Proofs.Ytefdcfioobfggaa.AI
