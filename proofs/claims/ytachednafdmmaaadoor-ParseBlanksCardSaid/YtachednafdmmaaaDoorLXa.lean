/- Words of texts that are not known. -/
import Derived.Test.YtachednafdmmaaaDoorProg
import Derived.Test.YtachednafdmmaaaDoorAIlo
import Derived.Shelf.Lay
import Derived.Shelf.LaySoft
import Derived.Shelf.Pu.ParseUintPublic10
import Derived.Ground.MpProg
import Derived.KernelRfl
namespace Go.Proofs.YtachednafdmmaaaDoor.AI.Lx
open Go Go.RowKit Go.Shelf
set_option linter.unusedVariables false
set_option linter.unusedSimpArgs false
theorem hmix : Tryd.prog.follows .mixedOrders = true := by kernel_rfl
abbrev st (l : List UInt8) : Value := .string ⟨⟨l⟩⟩
abbrev iv (n : Int) : Value := .int .i64 n
abbrev bv (n : Int) : Value := .int .u8 n
abbrev bo (b : Bool) : Option Value := some (.bool b)
/-- The variable that a number too great names. -/
abbrev errV : Value := .iface 83 (gptrV 0 [])
def lq : VTabs := [(1, [errV])]
theorem lq_g : GTab lq := by
  intro x hx v hv
  rw [lq, List.mem_singleton] at hx
  subst hx
  rw [List.mem_singleton] at hv
  subst hv
  exact .iface _ _ rfl (.gptr 0 [] (fun x hx => by cases hx))
noncomputable abbrev qA (F : TabF) (ins : List Nat) : CallA := mixA ins (callA Tryd.prog (glV lq) (regF Tryd.prog (glV lq)) 8 false) (sumQ (glV lq) lq (fun _ => 1) F)
noncomputable abbrev qK {R : Type} (F : TabF) (ins : List Nat) : CK R := mixK ins (inK Tryd.prog (glV lq) (regF Tryd.prog (glV lq)) 8) (sumQK (glV lq) lq (fun _ => 1) F)
theorem qA_ok {F : TabF} (hF : TabQ Tryd.prog lq F) (ins : List Nat) : CallOK Tryd.prog (glV lq) (qA F ins) := mixA_ok (callA_ok (regF_ok hmix) 8).1 (sumQ_ok lq_g _ hF)
theorem qK_ok {R : Type} (F : TabF) (ins : List Nat) : CKok (R := R) (qA F ins) (qK F ins) := mixK_ok (inK_ok 8) (sumQK_ok _ _ _ _)
/-- A function's run. -/
noncomputable abbrev RF (F : TabF) (ins : List Nat) (LK : LoopK Value) (fn : Func) (ar : List Value) : Option Value := runQ Tryd.prog lq (qA F ins) (qK F ins) LK 1 fn ar
def letB (c : Int) : Bool := (decide (c ≥ 97) && decide (c ≤ 122)) || (decide (c ≥ 65) && decide (c ≤ 90)) || (c == 95)
def digB (c : Int) : Bool := decide (c ≥ 48) && decide (c ≤ 57)
def namB (c : Int) : Bool := letB c || digB c
def nlB (c : Int) : Bool := c != 10
def byB (f : Int → Bool) (ar : List Value) : Option (Bool × Value) := match ar with
  | [.int .u8 c] => some (true, .bool (f c))
  | _ => none
def hpE (ar : List Value) : Option (Bool × Value) := match ar with
  | [.string s, .string p] => some (true, .bool (p.data.toList.isPrefixOf s.data.toList))
  | _ => none
theorem byB_some {f : Int → Bool} {ar : List Value} {v : Value} (h : byB f ar = some (true, v)) : ∃ c, ar = [bv c] ∧ v = .bool (f c) := by
  unfold byB at h
  split at h
  · cases h; exact ⟨_, rfl, rfl⟩
  · cases h
theorem hpE_some {ar : List Value} {v : Value} (h : hpE ar = some (true, v)) : ∃ s p, ar = [st s, st p] ∧ v = .bool (p.isPrefixOf s) := by
  unfold hpE at h
  split at h
  · rename_i s p
    cases h
    obtain ⟨⟨s⟩⟩ := s
    obtain ⟨⟨p⟩⟩ := p
    exact ⟨s, p, rfl, rfl⟩
  · cases h
/-- From a run with no loops. -/
theorem conF {F : TabF} (hF : TabQ Tryd.prog lq F) (ins : List Nat) {g : FuncId} {fn : Func} {c : Code} {ar : List Value} {v : Value} (hfn : Tryd.prog.funcs[g]? = some fn) (hb : fn.body = some c) (hname : (fn.name == "runtime.NumGoroutine") = false) (hr : RF F ins noLK fn ar = some v) : ConQ Tryd.prog lq g ar v :=
  conQ hmix (qA_ok hF ins) (qK_ok F ins) noLK_ok hfn hb hname noLO_ok hr
abbrev bT : Option Value := some (.bool true)
abbrev bF : Option Value := some (.bool false)
theorem let_run (c : Int) : RF noG [] noLK Tryd.f28 [bv c] = bo (letB c) ∧ RF noG [] noLK Tryd.f14 [bv c] = bo (letB c) := by
  have key : (bif decide (c ≥ 97) then bif decide (c ≤ 122) then bT else bif decide (c ≥ 65) then bif decide (c ≤ 90) then bT else bif c == 95 then bT else bF else bif c == 95 then bT else bF else bif decide (c ≥ 65) then bif decide (c ≤ 90) then bT else bif c == 95 then bT else bF else bif c == 95 then bT else bF) = bo (letB c) := by
    unfold letB
    cases decide (c ≥ 97) <;> cases decide (c ≤ 122) <;> cases decide (c ≥ 65) <;> cases decide (c ≤ 90) <;> cases c == 95 <;> rfl
  refine ⟨Eq.trans ?_ key, Eq.trans ?_ key⟩ <;> kernel_rfl
theorem dig_run (c : Int) : RF noG [] noLK Tryd.f31 [bv c] = bo (digB c) ∧ RF noG [] noLK Tryd.f15 [bv c] = bo (digB c) := by
  have key : (bif decide (c ≥ 48) then bif decide (c ≤ 57) then bT else bF else bF) = bo (digB c) := by
    unfold digB
    cases decide (c ≥ 48) <;> cases decide (c ≤ 57) <;> rfl
  refine ⟨Eq.trans ?_ key, Eq.trans ?_ key⟩ <;> kernel_rfl
theorem nl_run (c : Int) : RF noG [] noLK Tryd.f27 [bv c] = bo (nlB c) := by
  have key : (bif c != 10 then bT else bF) = bo (nlB c) := by
    unfold nlB
    cases c != 10 <;> rfl
  refine Eq.trans ?_ key
  kernel_rfl
theorem nam_run (c : Int) : RF noG [28, 31] noLK Tryd.f29 [bv c] = bo (namB c) := by
  have key : (bif decide (c ≥ 97) then bif decide (c ≤ 122) then bT else bif decide (c ≥ 65) then bif decide (c ≤ 90) then bT else bif c == 95 then bT else bif decide (c ≥ 48) then bif decide (c ≤ 57) then bT else bF else bF else bif c == 95 then bT else bif decide (c ≥ 48) then bif decide (c ≤ 57) then bT else bF else bF else bif decide (c ≥ 65) then bif decide (c ≤ 90) then bT else bif c == 95 then bT else bif decide (c ≥ 48) then bif decide (c ≤ 57) then bT else bF else bF else bif c == 95 then bT else bif decide (c ≥ 48) then bif decide (c ≤ 57) then bT else bF else bF) = bo (namB c) := by
    unfold namB letB digB
    cases decide (c ≥ 97) <;> cases decide (c ≤ 122) <;> cases decide (c ≥ 65) <;> cases decide (c ≤ 90) <;> cases c == 95 <;> cases decide (c ≥ 48) <;> cases decide (c ≤ 57) <;> rfl
  refine Eq.trans ?_ key
  kernel_rfl
theorem prefix_take : ∀ (p s : List UInt8), (bif decide ((s.length : Int) ≥ (p.length : Int)) then (bif Nat.ble (Int.toNat (p.length : Int)) s.length then (bif List.take (Int.toNat (p.length : Int)) s == p then bT else bF) else none) else bF) = bo (p.isPrefixOf s) := by
  intro p s
  rw [Int.toNat_natCast]
  have hp : p.isPrefixOf s = true ↔ s.take p.length = p := by
    rw [List.isPrefixOf_iff_prefix]
    constructor
    · rintro ⟨r, rfl⟩; exact List.take_left
    · intro h; exact ⟨s.drop p.length, Eq.trans (congrArg (· ++ s.drop p.length) h.symm) (List.take_append_drop _ _)⟩
  by_cases h : p.length ≤ s.length
  · rw [decide_eq_true (by omega), ble_t h]
    by_cases ht : s.take p.length = p
    · rw [ht, beq_self_eq_true, hp.2 ht]; rfl
    · rw [beq_false_of_ne ht]
      have : p.isPrefixOf s = false := by rw [← Bool.not_eq_true]; exact fun g => ht (hp.1 g)
      rw [this]; rfl
  · rw [decide_eq_false (by omega)]
    have : p.isPrefixOf s = false := by
      rw [← Bool.not_eq_true]; intro g
      have := congrArg List.length (hp.1 g)
      rw [List.length_take] at this; omega
    rw [this]; rfl
theorem hp_run (s p : List UInt8) : RF noG [41] noLK Tryd.f25 [st s, st p] = bo (p.isPrefixOf s) := by
  refine Eq.trans ?_ (prefix_take p s)
  kernel_rfl
/-- What is known of single bytes, and of how a text begins. -/
noncomputable def F0 : TabF := andG 28 (byB letB) <| andG 29 (byB namB) <| andG 31 (byB digB) <| andG 27 (byB nlB) <| andG 14 (byB letB) <| andG 15 (byB digB) <| andG 25 hpE noG
theorem F0_ok : TabQ Tryd.prog lq F0 := by
  have k {f : Int → Bool} {i : List Nat} {g : FuncId} {fn : Func} {c : Code} (hfn : Tryd.prog.funcs[g]? = some fn) (hb : fn.body = some c) (hname : (fn.name == "runtime.NumGoroutine") = false) (hr : ∀ c, RF noG i noLK fn [bv c] = bo (f c)) : ∀ ar v, byB f ar = some (true, v) → ConQ Tryd.prog lq g ar v := fun ar v h => by
    obtain ⟨c, rfl, rfl⟩ := byB_some h
    exact conF noQ_ok i hfn hb hname (hr c)
  refine andQ_ok Tryd.func28 rfl (by kernel_rfl) (k Tryd.func28 rfl (by kernel_rfl) fun c => (let_run c).1) ?_
  refine andQ_ok Tryd.func29 rfl (by kernel_rfl) (k Tryd.func29 rfl (by kernel_rfl) nam_run) ?_
  refine andQ_ok Tryd.func31 rfl (by kernel_rfl) (k Tryd.func31 rfl (by kernel_rfl) fun c => (dig_run c).1) ?_
  refine andQ_ok Tryd.func27 rfl (by kernel_rfl) (k Tryd.func27 rfl (by kernel_rfl) nl_run) ?_
  refine andQ_ok Tryd.func14 rfl (by kernel_rfl) (k Tryd.func14 rfl (by kernel_rfl) fun c => (let_run c).2) ?_
  refine andQ_ok Tryd.func15 rfl (by kernel_rfl) (k Tryd.func15 rfl (by kernel_rfl) fun c => (dig_run c).2) ?_
  refine andQ_ok Tryd.func25 rfl (by kernel_rfl) (fun ar v h => ?_) noQ_ok
  obtain ⟨s, p, rfl, rfl⟩ := hpE_some h
  exact conF noQ_ok [41] Tryd.func25 rfl (by kernel_rfl) (hp_run s p)
abbrev fv (g : Nat) : Value := .func (.func g) #[] #[]
/-- How many bytes at a text's beginning are of a kind. -/
def whN (p : Int → Bool) : List UInt8 → Nat
  | [] => 0
  | b :: r => bif p (b.toNat : Int) then whN p r + 1 else 0
theorem whN_le (p : Int → Bool) : ∀ l, whN p l ≤ l.length
  | [] => Nat.le_refl _
  | b :: r => by
    unfold whN
    have := whN_le p r
    cases p (b.toNat : Int)
    · exact Nat.zero_le _
    · exact Nat.succ_le_succ this
theorem byte_at {s : List UInt8} {n : Nat} (h : n < s.length) : byteAt s (Int.toNat (n : Int)) = ((s[n]'h).toNat : Int) := by
  rw [Int.toNat_natCast]; unfold byteAt; rw [List.getElem?_eq_getElem h]
theorem wrap1 {n : Nat} (h : n < 10000000) : IntKind.wrap IntKind.i64 ((n : Int) + 1) = ((n + 1 : Nat) : Int) := by rw [i64w]; omega
noncomputable abbrev WT (p : Int → Bool) (g : Nat) (s : List UInt8) (n : Int) : Option (XA × List Value × AH × Nat) :=
  bif decide (n < (s.length : Int)) then bif decide (0 ≤ n) then bif Nat.ble (Int.toNat n + 1) s.length then bif tst ([errV] = [errV]) && true then bif p (byteAt s (Int.toNat n)) then some (XA.normal, [st s, fv g, iv (IntKind.wrap IntKind.i64 (n + 1))], hV lq, 20) else some (XA.exit 0, [st s, fv g, iv n], hV lq, 20) else none else none else none else some (XA.exit 0, [st s, fv g, iv n], hV lq, 20)
noncomputable abbrev ZW (g : Nat) (s : List UInt8) (n : Int) := ZQ Tryd.prog lq (qA F0 []) (qK F0 []) noLK Tryd.f26 0 [0, 1, 5] [st s, fv g, iv n]
theorem tW22 (s : List UInt8) (n : Int) : ZW 29 s n = WT namB 29 s n := by kernel_rfl
theorem tW23 (s : List UInt8) (n : Int) : ZW 31 s n = WT digB 31 s n := by kernel_rfl
theorem tW20 (s : List UInt8) (n : Int) : ZW 27 s n = WT nlB 27 s n := by kernel_rfl
theorem drop_cons {s : List UInt8} {n : Nat} (h : n < s.length) : s.drop n = s[n] :: s.drop (n + 1) := List.drop_eq_getElem_cons h
theorem wh_step {p : Int → Bool} {g : Nat} {s : List UInt8} (ht : ∀ n, ZW g s n = WT p g s n) (hs : s.length ≤ 100000) :
    LoopTri Tryd.prog (glV lq) (hV lq) (loopN Tryd.f26 0) (stT [0, 1, 5] [st s, fv g, iv ((0 : Nat) : Int)] 20 (hV lq)) (.exit 0) (stT [0, 1, 5] [st s, fv g, iv ((0 + whN p (s.drop 0) : Nat) : Int)] 20 (hV lq)) := by
  refine loop_plainO hmix (qA_ok F0_ok []) (qK_ok F0 []) noLK_ok noLO_ok (c := loopN Tryd.f26 0) [0, 1, 5] (X := {n : Nat // n ≤ s.length}) (fun n => [st s, fv g, iv (n.1 : Int)]) (fun n => s.length - n.1)
    (fun n => (.exit 0, [st s, fv g, iv ((n.1 + whN p (s.drop n.1) : Nat) : Int)])) (fun ⟨n, hn⟩ => ?_) ⟨0, Nat.zero_le _⟩
  dsimp only
  have h := ht (n : Int)
  by_cases hlt : n < s.length
  · rw [WT, decide_eq_true (show (n : Int) < (s.length : Int) by omega), decide_eq_true (show (0 : Int) ≤ n by omega), ble_t (show Int.toNat (n : Int) + 1 ≤ s.length by omega), tst_of rfl, byte_at hlt] at h
    rw [drop_cons hlt, whN]
    cases hp : p ((s[n]).toNat : Int) with
    | true =>
      rw [hp, wrap1 (by omega)] at h
      refine ⟨_, _, h, .inl ⟨rfl, ⟨n + 1, hlt⟩, rfl, by dsimp only; omega, ?_⟩⟩
      dsimp only
      rw [cond_true, show n + 1 + whN p (s.drop (n + 1)) = n + (whN p (s.drop (n + 1)) + 1) by omega]
    | false =>
      rw [hp] at h
      exact ⟨_, _, h, .inr ⟨by simp, rfl⟩⟩
  · obtain rfl : n = s.length := by omega
    rw [WT, decide_eq_false (Int.lt_irrefl _)] at h
    rw [List.drop_length]
    exact ⟨_, _, h, .inr ⟨by simp, rfl⟩⟩
theorem loops19 : loopsOf (bodyOf Tryd.f26) = [loopN Tryd.f26 0] := by kernel_rfl
noncomputable abbrev RW (p : Int → Bool) (g : Nat) (s : List UInt8) := RF F0 [] (lkV lq 2 [0, 1, 5] [st s, fv g, iv ((0 : Nat) : Int)] [st s, fv g, iv ((0 + whN p (s.drop 0) : Nat) : Int)] 20 (.exit 0) noLK) Tryd.f26 [st s, fv g]
theorem tw22 (s : List UInt8) : RW namB 29 s = bif tst ([st s, fv 29, iv 0] = [st s, fv 29, iv ((0 : Nat) : Int)] ∧ hV lq = hV lq ∧ 20 = 20) then some (iv ((0 + whN namB (s.drop 0) : Nat) : Int)) else none := by kernel_rfl
theorem tw23 (s : List UInt8) : RW digB 31 s = bif tst ([st s, fv 31, iv 0] = [st s, fv 31, iv ((0 : Nat) : Int)] ∧ hV lq = hV lq ∧ 20 = 20) then some (iv ((0 + whN digB (s.drop 0) : Nat) : Int)) else none := by kernel_rfl
theorem tw20 (s : List UInt8) : RW nlB 27 s = bif tst ([st s, fv 27, iv 0] = [st s, fv 27, iv ((0 : Nat) : Int)] ∧ hV lq = hV lq ∧ 20 = 20) then some (iv ((0 + whN nlB (s.drop 0) : Nat) : Int)) else none := by kernel_rfl
theorem wh_con {p : Int → Bool} {g : Nat} {s : List UInt8} (ht : ∀ n, ZW g s n = WT p g s n) (hs : s.length ≤ 100000) (hr : RW p g s = bif tst ([st s, fv g, iv 0] = [st s, fv g, iv ((0 : Nat) : Int)] ∧ hV lq = hV lq ∧ 20 = 20) then some (iv ((0 + whN p (s.drop 0) : Nat) : Int)) else none) :
    ConQ Tryd.prog lq 26 [st s, fv g] (iv (whN p s : Nat)) := by
  rw [tst_of ⟨rfl, rfl, rfl⟩, Nat.zero_add, List.drop_zero] at hr
  refine conQ hmix (qA_ok F0_ok []) (qK_ok F0 []) (lkQ_ok noLK_ok) Tryd.func26 rfl (by kernel_rfl) (loV_ok (fun c hc _ => ?_) noLO_ok) hr
  rw [loops19, List.mem_singleton] at hc
  subst hc
  exact wh_step ht hs
noncomputable def whE (ar : List Value) : Option (Bool × Value) := match ar with
  | [.string s, .func (.func g) ⟨[]⟩ ⟨[]⟩] => bif Nat.beq g 29 then some (tst (s.data.toList.length ≤ 100000), iv (whN namB s.data.toList : Nat)) else bif Nat.beq g 31 then some (tst (s.data.toList.length ≤ 100000), iv (whN digB s.data.toList : Nat)) else bif Nat.beq g 27 then some (tst (s.data.toList.length ≤ 100000), iv (whN nlB s.data.toList : Nat)) else none
  | _ => none
theorem whE_con {ar : List Value} {v : Value} (h : whE ar = some (true, v)) : ConQ Tryd.prog lq 26 ar v := by
  unfold whE at h
  split at h
  · rename_i s g
    obtain ⟨⟨s⟩⟩ := s
    by_cases h1 : g = 29
    · subst h1
      obtain ⟨ht, rfl⟩ := Prod.mk.inj (Option.some.inj h)
      exact wh_con (tW22 s) (of_tst ht) (tw22 s)
    · rw [beq_f h1, cond_false] at h
      by_cases h2 : g = 31
      · subst h2
        obtain ⟨ht, rfl⟩ := Prod.mk.inj (Option.some.inj h)
        exact wh_con (tW23 s) (of_tst ht) (tw23 s)
      · rw [beq_f h2, cond_false] at h
        by_cases h3 : g = 27
        · subst h3
          obtain ⟨ht, rfl⟩ := Prod.mk.inj (Option.some.inj h)
          exact wh_con (tW20 s) (of_tst ht) (tw20 s)
        · rw [beq_f h3] at h; cases h
  · cases h
noncomputable def F1 : TabF := andG 26 whE F0
theorem F1_ok : TabQ Tryd.prog lq F1 := andQ_ok Tryd.func26 rfl (by kernel_rfl) (fun ar v h => whE_con h) F0_ok
def blankB (c : Int) : Bool := c == 32 || (c == 9 || (c == 10 || c == 13))
/-- How many bytes stand ahead of the next word (true: in a remark). -/
def bl : Bool → List UInt8 → Nat
  | _, [] => 0
  | false, c :: r => bif blankB (c.toNat : Int) then bl false r + 1 else bif [47, 47].isPrefixOf (c :: r) then bl true r + 1 else 0
  | true, c :: r => bif nlB (c.toNat : Int) then bl true r + 1 else bl false r + 1
theorem bl_le : ∀ (l : List UInt8) (b : Bool), bl b l ≤ l.length
  | [], b => by cases b <;> exact Nat.le_refl _
  | c :: r, false => by
    unfold bl
    have h1 := bl_le r false
    have h2 := bl_le r true
    cases blankB (c.toNat : Int) <;> cases [47, 47].isPrefixOf (c :: r) <;> simp only [cond_true, cond_false, List.length_cons] <;> omega
  | c :: r, true => by
    unfold bl
    have h1 := bl_le r false
    have h2 := bl_le r true
    cases nlB (c.toNat : Int) <;> simp only [cond_true, cond_false, List.length_cons] <;> omega
theorem bl_wh : ∀ (l : List UInt8), bl true l = whN nlB l + bl false (l.drop (whN nlB l))
  | [] => rfl
  | c :: r => by
    unfold whN
    cases h : nlB (c.toNat : Int) with
    | true =>
      conv => lhs; unfold bl; rw [h, cond_true, bl_wh r]
      rw [cond_true, List.drop_succ_cons]
      omega
    | false =>
      have hb : blankB (c.toNat : Int) = true := by
        have : (c.toNat : Int) = 10 := by simpa [nlB] using h
        rw [this]; rfl
      rw [cond_false, List.drop_zero, Nat.zero_add]
      conv => lhs; unfold bl; rw [h, cond_false]
      conv => rhs; unfold bl; rw [hb, cond_true]
theorem bl_rem {l : List UInt8} (h : [47, 47].isPrefixOf l = true) : bl false l = bl true l := by
  obtain ⟨r, rfl⟩ := List.isPrefixOf_iff_prefix.1 h
  show bl false (47 :: 47 :: r) = bl true (47 :: 47 :: r)
  have e1 : bl false (47 :: 47 :: r) = bl true (47 :: r) + 1 := by
    conv => lhs; unfold bl
    rw [show blankB ((47 : UInt8).toNat : Int) = false by decide, cond_false, show ([47, 47] : List UInt8).isPrefixOf (47 :: 47 :: r) = true from h]; rfl
  have e2 : bl true (47 :: 47 :: r) = bl true (47 :: r) + 1 := by
    conv => lhs; unfold bl
    rw [show nlB ((47 : UInt8).toNat : Int) = true by decide]; rfl
  rw [e1, e2]
theorem slice_from {s : List UInt8} {n : Nat} : List.take (s.length - n) (s.drop n) = s.drop n := List.take_of_length_le (by rw [List.length_drop]; exact Nat.le_refl _)
noncomputable abbrev tE : Bool := tst ([errV] = [errV]) && true
theorem tE_t : tE = true := by unfold tE; rw [tst_of rfl]; rfl
noncomputable abbrev ZBl (s : List UInt8) (n : Int) := ZQ Tryd.prog lq (qA F1 []) (qK F1 []) noLK Tryd.f20 0 [0, 2, 3] [st s, iv 0, iv n]
theorem tBl (s : List UInt8) (n : Int) : ZBl s n = bif decide (n < (s.length : Int)) then bif decide (0 ≤ n) then bif Nat.ble (Int.toNat n + 1) (List.length s) then bif byteAt s (Int.toNat n) == 32 then some (XA.normal, [st s, iv 0, iv (IntKind.wrap IntKind.i64 (n + 1))], hV lq, 42) else bif byteAt s (Int.toNat n) == 9 then some (XA.normal, [st s, iv 0, iv (IntKind.wrap IntKind.i64 (n + 1))], hV lq, 42) else bif byteAt s (Int.toNat n) == 10 then some (XA.normal, [st s, iv 0, iv (IntKind.wrap IntKind.i64 (n + 1))], hV lq, 42) else bif byteAt s (Int.toNat n) == 13 then some (XA.normal, [st s, iv 0, iv (IntKind.wrap IntKind.i64 (n + 1))], hV lq, 42)
    else bif decide (0 ≤ n) then bif Nat.ble (Int.toNat n) (List.length s) then bif Nat.ble (List.length s) (List.length s) then bif tE then bif List.isPrefixOf [47, 47] (List.take (List.length s - Int.toNat n) (List.drop (Int.toNat n) s)) then bif decide (0 ≤ n) then bif Nat.ble (Int.toNat n) (List.length s) then bif Nat.ble (List.length s) (List.length s) then bif tE then bif tst (List.length (List.take (List.length s - Int.toNat n) (List.drop (Int.toNat n) s)) ≤ 100000) then some (XA.normal, [st s, iv 0, iv (IntKind.wrap IntKind.i64 (n + (whN nlB (List.take (List.length s - Int.toNat n) (List.drop (Int.toNat n) s)) : Nat)))], hV lq, 42) else none else none else none else none else none
    else some (XA.ret, [st s, iv n, iv n], hV lq, 42) else none else none else none else none else none else none else some (XA.exit 0, [st s, iv 0, iv n], hV lq, 42) := by kernel_rfl
theorem bif4 {α : Type} (a b c d : Bool) (x y : α) : (bif a then x else bif b then x else bif c then x else bif d then x else y) = bif (a || (b || (c || d))) then x else y := by cases a <;> cases b <;> cases c <;> cases d <;> rfl
def blFin (s : List UInt8) (f : Nat) : XA × List Value := if f = s.length then (.exit 0, [st s, iv 0, iv (f : Nat)]) else (.ret, [st s, iv (f : Nat), iv (f : Nat)])
theorem bl_loop {s : List UInt8} (hs : s.length ≤ 100000) :
    LoopTri Tryd.prog (glV lq) (hV lq) (loopN Tryd.f20 0) (stT [0, 2, 3] [st s, iv 0, iv ((0 : Nat) : Int)] 42 (hV lq)) (blFin s (0 + bl false (s.drop 0))).1 (stT [0, 2, 3] (blFin s (0 + bl false (s.drop 0))).2 42 (hV lq)) := by
  refine loop_plainO hmix (qA_ok F1_ok []) (qK_ok F1 []) noLK_ok noLO_ok (c := loopN Tryd.f20 0) [0, 2, 3] (X := {n : Nat // n ≤ s.length}) (fun n => [st s, iv 0, iv (n.1 : Int)]) (fun n => s.length - n.1)
    (fun n => blFin s (n.1 + bl false (s.drop n.1))) (fun ⟨n, hn⟩ => ?_) ⟨0, Nat.zero_le _⟩
  dsimp only
  have h := tBl s (n : Int)
  by_cases hlt : n < s.length
  · have hd := drop_cons hlt
    rw [bif4, decide_eq_true (show (n : Int) < (s.length : Int) by omega), decide_eq_true (show (0 : Int) ≤ n by omega), ble_t (show Int.toNat (n : Int) + 1 ≤ s.length by omega), byte_at hlt] at h
    simp only [cond_true, Int.toNat_natCast, slice_from, ble_t hn, ble_t (Nat.le_refl s.length), tE_t] at h
    cases hb : blankB ((s[n]).toNat : Int) with
    | true =>
      have hb' : ((((s[n]).toNat : Int) == 32) || ((((s[n]).toNat : Int) == 9) || ((((s[n]).toNat : Int) == 10) || (((s[n]).toNat : Int) == 13)))) = true := hb
      rw [hb', wrap1 (by omega)] at h
      refine ⟨_, _, h, .inl ⟨rfl, ⟨n + 1, hlt⟩, rfl, by dsimp only; omega, ?_⟩⟩
      dsimp only
      have e : bl false (s.drop n) = bl false (s.drop (n + 1)) + 1 := by rw [hd]; conv => lhs; unfold bl; rw [hb, cond_true]
      rw [e, show n + 1 + bl false (s.drop (n + 1)) = n + (bl false (s.drop (n + 1)) + 1) by omega]
    | false =>
      have hb' : ((((s[n]).toNat : Int) == 32) || ((((s[n]).toNat : Int) == 9) || ((((s[n]).toNat : Int) == 10) || (((s[n]).toNat : Int) == 13)))) = false := hb
      rw [hb', cond_false] at h
      cases hp : [47, 47].isPrefixOf (s.drop n) with
      | true =>
        have hw := whN_le nlB (s.drop n)
        rw [List.length_drop] at hw
        rw [hp, cond_true, tst_of (show (s.drop n).length ≤ 100000 by rw [List.length_drop]; omega), cond_true, show IntKind.wrap IntKind.i64 ((n : Int) + (whN nlB (s.drop n) : Nat)) = ((n + whN nlB (s.drop n) : Nat) : Int) by rw [i64w]; omega] at h
        refine ⟨_, _, h, .inl ⟨rfl, ⟨n + whN nlB (s.drop n), by omega⟩, rfl, ?_, ?_⟩⟩
        · dsimp only
          have : 0 < whN nlB (s.drop n) := by
            obtain ⟨r, hr⟩ := List.isPrefixOf_iff_prefix.1 hp
            rw [← hr]
            show 0 < whN nlB (47 :: 47 :: r)
            unfold whN
            rw [show nlB ((47 : UInt8).toNat : Int) = true by decide]; exact Nat.succ_pos _
          omega
        · dsimp only
          rw [bl_rem hp, bl_wh, List.drop_drop, show n + whN nlB (s.drop n) + bl false (s.drop (n + whN nlB (s.drop n))) = n + (whN nlB (s.drop n) + bl false (s.drop (n + whN nlB (s.drop n)))) by omega]
      | false =>
        rw [hp, cond_false] at h
        refine ⟨_, _, h, .inr ⟨by simp, ?_⟩⟩
        have e : bl false (s.drop n) = 0 := by rw [hd] at hp ⊢; conv => lhs; unfold bl; rw [hb, cond_false, hp, cond_false]
        rw [e, Nat.add_zero, blFin, if_neg (by omega)]
  · obtain rfl : n = s.length := by omega
    rw [decide_eq_false (Int.lt_irrefl _)] at h
    rw [List.drop_length]
    refine ⟨_, _, h, .inr ⟨by simp, ?_⟩⟩
    rw [blFin, if_pos (by rfl)]; rfl
theorem loops12 : loopsOf (bodyOf Tryd.f20) = [loopN Tryd.f20 0] := by kernel_rfl
noncomputable abbrev RBl (s : List UInt8) (x : XA) (post : List Value) := RF F1 [] (lkV lq 2 [0, 2, 3] [st s, iv 0, iv ((0 : Nat) : Int)] post 42 x noLK) Tryd.f20 [st s]
theorem tb0 (s : List UInt8) (f : Int) : RBl s (.exit 0) [st s, iv 0, iv f] = bif tst ([st s, iv 0, iv 0] = [st s, iv 0, iv ((0 : Nat) : Int)] ∧ hV lq = hV lq ∧ 42 = 42) then some (iv f) else none := by kernel_rfl
theorem tb1 (s : List UInt8) (f : Int) : RBl s .ret [st s, iv f, iv f] = bif tst ([st s, iv 0, iv 0] = [st s, iv 0, iv ((0 : Nat) : Int)] ∧ hV lq = hV lq ∧ 42 = 42) then some (iv f) else none := by kernel_rfl
theorem bl_con {s : List UInt8} (hs : s.length ≤ 100000) : ConQ Tryd.prog lq 20 [st s] (iv (bl false s : Nat)) := by
  have hl := bl_loop hs
  rw [Nat.zero_add, List.drop_zero] at hl
  have key : RBl s (blFin s (bl false s)).1 (blFin s (bl false s)).2 = some (iv (bl false s : Nat)) := by
    unfold blFin
    split
    · exact (tb0 s _).trans (by rw [tst_of ⟨rfl, rfl, rfl⟩]; rfl)
    · exact (tb1 s _).trans (by rw [tst_of ⟨rfl, rfl, rfl⟩]; rfl)
  refine conQ hmix (qA_ok F1_ok []) (qK_ok F1 []) (lkQ_ok noLK_ok) Tryd.func20 rfl (by kernel_rfl) (loV_ok (fun c hc _ => ?_) noLO_ok) key
  rw [loops12, List.mem_singleton] at hc
  subst hc
  exact hl
noncomputable def blE (ar : List Value) : Option (Bool × Value) := match ar with
  | [.string s] => some (tst (s.data.toList.length ≤ 100000), iv (bl false s.data.toList : Nat))
  | _ => none
noncomputable def F2 : TabF := andG 20 blE F1
theorem F2_ok : TabQ Tryd.prog lq F2 := andQ_ok Tryd.func20 rfl (by kernel_rfl) (fun ar v h => by
  unfold blE at h
  split at h
  · rename_i s
    obtain ⟨⟨s⟩⟩ := s
    obtain ⟨ht, rfl⟩ := Prod.mk.inj (Option.some.inj h)
    exact bl_con (of_tst ht)
  · cases h) F1_ok
/-- The names that are kept. -/
def keptL : List (List UInt8) := [[115, 116, 114, 117, 99, 116], [118, 97, 114], [102, 117, 110, 99], [105, 110, 116], [98, 111, 111, 108], [99, 104, 97, 110], [105, 102], [101, 108, 115, 101], [119, 104, 105, 108, 101], [114, 101, 116, 117, 114, 110], [112, 114, 105, 110, 116], [103, 111], [115, 101, 110, 100], [99, 108, 111, 115, 101], [115, 101, 108, 101, 99, 116], [99, 97, 115, 101], [100, 101, 102, 97, 117, 108, 116], [114, 101, 99, 118], [116, 114, 117, 101], [102, 97, 108, 115, 101], [110, 105, 108], [110, 101, 119], [109, 97, 107, 101], [108, 101, 110]]
def keptB (l : List UInt8) : Bool := keptL.any fun a => l == a
def chainA (l : List UInt8) : List (List UInt8) → Option Value
  | [] => bF
  | a :: r => bif l == a then bT else chainA l r
def chainB (l : List UInt8) : List (List UInt8) → Option Value
  | [] => bF
  | a :: r => bif a == l then bT else chainB l r
theorem chainA_any (l : List UInt8) : ∀ r, chainA l r = bo (r.any fun a => l == a) := by
  intro r
  induction r with
  | nil => rfl
  | cons a r ih =>
    simp only [chainA, List.any_cons]
    cases h : l == a
    · exact ih
    · rfl
theorem chainB_any (l : List UInt8) : ∀ r, chainB l r = bo (r.any fun a => l == a) := by
  intro r
  induction r with
  | nil => rfl
  | cons a r ih =>
    simp only [chainB, List.any_cons]
    rw [BEq.comm (a := a) (b := l)]
    cases h : l == a
    · exact ih
    · rfl
def kpE (ar : List Value) : Option (Bool × Value) := match ar with
  | [.string s] => some (true, .bool (keptB s.data.toList))
  | _ => none
theorem kp_run (s : List UInt8) : RF noG [] noLK Tryd.f30 [st s] = bo (keptB s) := (show RF noG [] noLK Tryd.f30 [st s] = chainA s keptL by kernel_rfl).trans (chainA_any s keptL)
theorem kpR_run (s : List UInt8) : RF noG [] (lkIt Tryd.prog (glV lq) (qA noG []) (qK noG []) noLK 40) Tryd.f16 [st s] = bo (keptB s) := (show RF noG [] (lkIt Tryd.prog (glV lq) (qA noG []) (qK noG []) noLK 40) Tryd.f16 [st s] = chainB s keptL by kernel_rfl).trans (chainB_any s keptL)
/-- From a run whose loops are gone through. -/
theorem conIt {F : TabF} (hF : TabQ Tryd.prog lq F) (ins : List Nat) (n : Nat) {g : FuncId} {fn : Func} {c : Code} {ar : List Value} {v : Value} (hfn : Tryd.prog.funcs[g]? = some fn) (hb : fn.body = some c) (hname : (fn.name == "runtime.NumGoroutine") = false) (hlo : ((loopsOf (bodyOf fn)).all fun c => (loopsOf c).isEmpty) = true)
    (hr : RF F ins (lkIt Tryd.prog (glV lq) (qA F ins) (qK F ins) noLK n) fn ar = some v) : ConQ Tryd.prog lq g ar v :=
  conQ hmix (qA_ok hF ins) (qK_ok F ins) (lkIt_ok (qK_ok F ins) noLK_ok n) hfn hb hname (loIt_ok hmix (qA_ok hF ins) (fun c hc => by
    have := List.all_eq_true.1 hlo c hc
    rw [List.isEmpty_iff.1 this]
    intro c' hc'; cases hc') n) hr
noncomputable def F3 : TabF := andG 30 kpE <| andG 16 kpE F2
theorem F3_ok : TabQ Tryd.prog lq F3 :=
  andQ_ok Tryd.func30 rfl (by kernel_rfl) (fun ar v h => by
    unfold kpE at h
    split at h
    · rename_i s
      obtain ⟨⟨s⟩⟩ := s
      cases h
      exact conF noQ_ok [] Tryd.func30 rfl (by kernel_rfl) (kp_run s)
    · cases h) <|
  andQ_ok Tryd.func16 rfl (by kernel_rfl) (fun ar v h => by
    unfold kpE at h
    split at h
    · rename_i s
      obtain ⟨⟨s⟩⟩ := s
      cases h
      exact conIt noQ_ok [] 40 Tryd.func16 rfl (by kernel_rfl) (by kernel_rfl) (kpR_run s)
    · cases h) F2_ok
shelf_lay Go.Proofs.LaysPu.n14 Mp 14 at Tryd as puLay
noncomputable def puOk (u : Nat) (ar : List Value) : Option (Bool × Value) := match ar with
  | [.string s, .int .i64 10, .int .i64 64] => some (tst (Lib.parseUintB 64 s.data.toList = .ok u ∧ s.data.toList.length ≤ 100000), .tuple ⟨[.int .u64 u, .nilIface]⟩)
  | _ => none
noncomputable def puNo (ar : List Value) : Option (Bool × Value) := match ar with
  | [.string s, .int .i64 10, .int .i64 64] => some (tst (Lib.parseUintB 64 s.data.toList = .range ∧ s.data.toList.length ≤ 100000), .tuple ⟨[.int .u64 18446744073709551615, .iface 75 (gptrV 0 [])]⟩)
  | _ => none
theorem puOk_con {u : Nat} {ar : List Value} {v : Value} (h : puOk u ar = some (true, v)) : ConQ Tryd.prog lq 32 ar v := by
  unfold puOk at h
  split at h
  · rename_i s
    obtain ⟨ht, rfl⟩ := Prod.mk.inj (Option.some.inj h)
    obtain ⟨h1, h2⟩ := of_tst ht
    refine conQ_plain rfl rfl fun w S _ => ?_
    have hs : s.size ≤ 9223372036854775806 := by
      have : s.size = s.data.toList.length := rfl
      omega
    refine (Any.strconv_ParseUint_10_at64_ok puLay s hs u h1 w).mono ?_
    rintro e w' ⟨rfl, rfl | rfl⟩
    · exact ⟨rfl, .refl _ _⟩
    · exact ⟨rfl, Lib.bytesWorld_below _ _ _⟩
  · cases h
theorem errV_inv {μ : Mu} {n : Nat} {c : Value} (h : VRel μ n errV c) : ∃ te pe, c = .iface te pe := by
  cases h with
  | plain v hp => simp [plain1] at hp
  | iface t v v' ht h => exact ⟨_, _, rfl⟩
theorem puNo_con {ar : List Value} {v : Value} (h : puNo ar = some (true, v)) : ConQ Tryd.prog lq 32 ar v := by
  unfold puNo at h
  split at h
  · rename_i s
    obtain ⟨ht, rfl⟩ := Prod.mk.inj (Option.some.inj h)
    obtain ⟨h1, h2⟩ := of_tst ht
    intro w S args hw hargs
    have ha : args = ⟨[.string s, .int .i64 10, .int .i64 64]⟩ := Array.ext' (LRel.plainV_eq hargs rfl)
    subst ha
    obtain ⟨C, e, fz, hC, hsz, hr⟩ := hw (1, [errV]) (by simp [lq])
    have h0 : 0 < C.size := by rw [hsz]; exact Nat.succ_pos _
    obtain ⟨te, pe, hev⟩ := errV_inv (hr.2 0 errV C[0] rfl (by rw [Array.getElem?_toList, Array.getElem?_eq_getElem h0]))
    have hC' : w.heap[1]? = some (.cells C e fz) := hC
    have hcell : w.cell? ⟨1, 0, none⟩ = some C[0] := by
      simp only [World.cell?, hC']
      simp [Array.getElem?_eq_getElem h0]
    refine (Any.strconv_ParseUint_10_at64_range puLay s (by have : s.size = s.data.toList.length := rfl
                                                            omega) h1 C[0] w hcell (.inr ⟨te, pe, hev⟩)).mono ?_
    rintro e' w' ⟨N, rfl, hN, hat, hb⟩
    refine ⟨_, rfl, hb, ?_⟩
    refine .tuple _ _ rfl fun i x y hx hy => ?_
    match i with
    | 0 => cases hx; cases hy; exact .plain _ rfl
    | 1 =>
      cases hx; cases hy
      exact .iface _ _ _ rfl (.gptr 0 [] N 0 _ (muS_some.2 ⟨.inr hN, _, _, hat⟩) (Nat.zero_le _) (fun j x y hx => by simp at hx))
    | i + 2 => cases hx
  · cases h
/-- The signs, the longer ones first. -/
def sgns : List (List UInt8) := [[61, 61], [33, 61], [60, 61], [62, 61], [60, 60], [62, 62], [38, 38], [124, 124], [40], [41], [123], [125], [91], [93], [44], [59], [46], [61], [60], [62], [43], [45], [42], [47], [37], [38], [124], [94], [33], [58]]
abbrev wd (k : Int) (t : List UInt8) : Value := .agg ⟨[iv k, st t, iv 0]⟩
noncomputable def sgT (s : List UInt8) : List (List UInt8) → Option Value
  | [] => some (wd 0 [])
  | x :: r => bif tE then bif x.isPrefixOf s then some (wd 4 x) else sgT s r else none
def sgF (s : List UInt8) : List (List UInt8) → Nat × List UInt8
  | [] => (0, [])
  | x :: r => bif x.isPrefixOf s then (4, x) else sgF s r
def wdV (p : Nat × List UInt8) : Value := wd (p.1 : Nat) p.2
theorem sgT_eq (s : List UInt8) : ∀ l, sgT s l = some (wdV (sgF s l))
  | [] => rfl
  | x :: r => by
    unfold sgT sgF
    rw [tE_t]
    cases x.isPrefixOf s
    · exact sgT_eq s r
    · rfl
def numOk : Lib.NumEnd Nat → Bool
  | .ok u => decide (u ≤ 4611686018427387903)
  | _ => false
def numB (t : List UInt8) : Bool := numOk (Lib.parseUintB 64 t)
/-- A text's first word: its kind, its text. -/
def wordF : List UInt8 → Nat × List UInt8
  | [] => (0, [])
  | c :: r => bif letB (c.toNat : Int) then (if 64 < whN namB (c :: r) then (0, []) else (bif keptB ((c :: r).take (whN namB (c :: r))) then 2 else 1, (c :: r).take (whN namB (c :: r))))
    else bif digB (c.toNat : Int) then (bif numB ((c :: r).take (whN digB (c :: r))) then (3, (c :: r).take (whN digB (c :: r))) else (0, []))
    else sgF (c :: r) sgns
theorem wordF_cons (c : UInt8) (r : List UInt8) : wordF (c :: r) = bif letB (c.toNat : Int) then (if 64 < whN namB (c :: r) then (0, []) else (bif keptB ((c :: r).take (whN namB (c :: r))) then 2 else 1, (c :: r).take (whN namB (c :: r))))
    else bif digB (c.toNat : Int) then (bif numB ((c :: r).take (whN digB (c :: r))) then (3, (c :: r).take (whN digB (c :: r))) else (0, []))
    else sgF (c :: r) sgns := rfl
theorem whN_all (p : Int → Bool) : ∀ (l : List UInt8), ∀ b ∈ l.take (whN p l), p (b.toNat : Int) = true
  | [], b, hb => by simp at hb
  | c :: r, b, hb => by
    unfold whN at hb
    cases hc : p (c.toNat : Int) with
    | false => rw [hc] at hb; simp at hb
    | true =>
      rw [hc, cond_true, List.take_succ_cons] at hb
      rcases List.mem_cons.1 hb with rfl | hb
      · exact hc
      · exact whN_all p r b hb
theorem pm_digits (M : Nat) : ∀ (l : List UInt8) (acc : Nat), (∀ b ∈ l, digB (b.toNat : Int) = true) → Lib.parseUintM M acc l ≠ .«syntax»
  | [], acc, _ => by simp [Lib.parseUintM]
  | c :: r, acc, h => by
    have hc := h c (by simp)
    unfold digB at hc
    rw [Bool.and_eq_true, decide_eq_true_eq, decide_eq_true_eq] at hc
    unfold Lib.parseUintM
    rw [if_pos (by omega)]
    split
    · simp
    · split
      · simp
      · exact pm_digits M r _ fun b hb => h b (by simp [hb])
noncomputable abbrev RWd (F : TabF) (s : List UInt8) := RF F [33] (lkIt Tryd.prog (glV lq) (qA F [33]) (qK F [33]) noLK 40) Tryd.f21 [st s]
noncomputable abbrev FOk (u : Nat) : TabF := andG 32 (puOk u) F3
noncomputable abbrev FNo : TabF := andG 32 puNo F3
theorem FOk_ok (u : Nat) : TabQ Tryd.prog lq (FOk u) := andQ_ok Tryd.func32 rfl (by kernel_rfl) (fun ar v h => puOk_con h) F3_ok
theorem FNo_ok : TabQ Tryd.prog lq FNo := andQ_ok Tryd.func32 rfl (by kernel_rfl) (fun ar v h => puNo_con h) F3_ok
abbrev wTake (p : Int → Bool) (s : List UInt8) : List UInt8 := List.take (Int.toNat (whN p s : Nat)) s
noncomputable abbrev wName (s : List UInt8) (x : Option Value) : Option Value := bif Nat.ble (Int.toNat 0 + 1) s.length then bif tE then bif letB (byteAt s (Int.toNat 0)) then bif tE then bif tst (s.length ≤ 100000) then bif Nat.ble (Int.toNat (whN namB s : Nat)) s.length then bif tE then bif keptB (wTake namB s) then (bif decide (((wTake namB s).length : Int) > 64) then some (wd 0 []) else some (wd 2 (wTake namB s))) else (bif decide (((wTake namB s).length : Int) > 64) then some (wd 0 []) else some (wd 1 (wTake namB s))) else none else none else none else none else x else none else none
noncomputable abbrev wDig (s : List UInt8) (b : Option Value) : Option Value := bif Nat.ble (Int.toNat 0 + 1) s.length then bif tE then bif digB (byteAt s (Int.toNat 0)) then bif tE then bif tst (s.length ≤ 100000) then bif Nat.ble (Int.toNat (whN digB s : Nat)) s.length then bif tE then b else none else none else none else none else sgT s sgns else none else none
set_option maxRecDepth 100000 in
theorem tOk (s : List UInt8) (u : Nat) : RWd (FOk u) s = wName s (wDig s (bif tst (Lib.parseUintB 64 (wTake digB s) = .ok u ∧ (wTake digB s).length ≤ 100000) then (bif decide ((u : Int) > 4611686018427387903) then some (wd 0 []) else some (wd 3 (wTake digB s))) else none)) := by kernel_rfl
set_option maxRecDepth 100000 in
theorem tNo (s : List UInt8) : RWd FNo s = wName s (wDig s (bif tst (Lib.parseUintB 64 (wTake digB s) = .range ∧ (wTake digB s).length ≤ 100000) then some (wd 0 []) else none)) := by kernel_rfl
theorem wtake_len (p : Int → Bool) (s : List UInt8) : (wTake p s).length = whN p s := by unfold wTake; rw [Int.toNat_natCast, List.length_take]; exact Nat.min_eq_left (whN_le p s)
theorem word_run {s : List UInt8} (h0 : s ≠ []) (hs : s.length ≤ 100000) : ∃ F, TabQ Tryd.prog lq F ∧ RWd F s = some (wdV (wordF s)) := by
  obtain ⟨c, r, rfl⟩ := List.exists_cons_of_ne_nil h0
  have hb : byteAt (c :: r) (Int.toNat 0) = (c.toNat : Int) := rfl
  have h1 : Nat.ble (Int.toNat 0 + 1) (c :: r).length = true := ble_t (by simp)
  have hk (p : Int → Bool) : Nat.ble (Int.toNat (whN p (c :: r) : Nat)) (c :: r).length = true := ble_t (by rw [Int.toNat_natCast]; exact whN_le p _)
  have htk (p : Int → Bool) : wTake p (c :: r) = (c :: r).take (whN p (c :: r)) := by unfold wTake; rw [Int.toNat_natCast]
  cases hl : letB (c.toNat : Int) with
  | true =>
    refine ⟨FNo, FNo_ok, ?_⟩
    rw [tNo, wName, h1, tE_t, hb, hl, tst_of hs, hk namB, wtake_len, htk]
    simp only [cond_true]
    rw [wordF_cons, hl, cond_true]
    by_cases h64 : 64 < whN namB (c :: r)
    · rw [if_pos h64, decide_eq_true (show ((whN namB (c :: r) : Nat) : Int) > 64 by omega)]
      cases keptB _ <;> rfl
    · rw [if_neg h64, decide_eq_false (show ¬ ((whN namB (c :: r) : Nat) : Int) > 64 by omega)]
      cases keptB _ <;> rfl
  | false =>
    cases hd : digB (c.toNat : Int) with
    | false =>
      refine ⟨FNo, FNo_ok, ?_⟩
      rw [tNo, wName, wDig, h1, tE_t, hb, hl, hd]
      simp only [cond_true, cond_false]
      rw [sgT_eq]
      rw [wordF_cons, hl, hd]; rfl
    | true =>
      have hlen : (wTake digB (c :: r)).length ≤ 100000 := by rw [wtake_len]; exact Nat.le_trans (whN_le _ _) hs
      have hns : Lib.parseUintB 64 (wTake digB (c :: r)) ≠ .«syntax» := by
        unfold Lib.parseUintB
        rw [if_neg (by
          intro e
          have := congrArg List.length e
          rw [wtake_len] at this
          unfold whN at this
          rw [hd] at this
          simp at this)]
        rw [htk]
        exact pm_digits _ _ _ (whN_all digB _)
      have hw : wordF (c :: r) = bif numB (wTake digB (c :: r)) then (3, wTake digB (c :: r)) else (0, []) := by
        rw [htk]; rw [wordF_cons, hl, hd]; rfl
      cases hu : Lib.parseUintB 64 (wTake digB (c :: r)) with
      | «syntax» => exact absurd hu hns
      | range =>
        refine ⟨FNo, FNo_ok, ?_⟩
        rw [tNo, wName, wDig, h1, tE_t, hb, hl, hd, tst_of hs, hk digB, tst_of ⟨hu, hlen⟩, hw, numB, hu]; rfl
      | ok u =>
        refine ⟨FOk u, FOk_ok u, ?_⟩
        rw [tOk, wName, wDig, h1, tE_t, hb, hl, hd, tst_of hs, hk digB, tst_of ⟨hu, hlen⟩, hw, numB, hu]
        simp only [cond_true, cond_false, numOk]
        by_cases hle : u ≤ 4611686018427387903
        · rw [decide_eq_true hle, decide_eq_false (by omega)]; rfl
        · rw [decide_eq_false hle, decide_eq_true (by omega)]; rfl
noncomputable def wdE (ar : List Value) : Option (Bool × Value) := match ar with
  | [.string s] => some (tst (s.data.toList ≠ [] ∧ s.data.toList.length ≤ 100000), wdV (wordF s.data.toList))
  | _ => none
noncomputable def F4 : TabF := andG 21 wdE F3
theorem F4_ok : TabQ Tryd.prog lq F4 := andQ_ok Tryd.func21 rfl (by kernel_rfl) (fun ar v h => by
  unfold wdE at h
  split at h
  · rename_i s
    obtain ⟨⟨s⟩⟩ := s
    obtain ⟨ht, rfl⟩ := Prod.mk.inj (Option.some.inj h)
    obtain ⟨h0, hs⟩ := of_tst ht
    obtain ⟨F, hF, hr⟩ := word_run h0 hs
    exact conIt hF [33] 40 Tryd.func21 rfl (by kernel_rfl) (by kernel_rfl) hr
  · cases h) F3_ok
theorem isPre_take {p s : List UInt8} (h : p.isPrefixOf s = true) : s.take p.length = p := by
  obtain ⟨r, rfl⟩ := List.isPrefixOf_iff_prefix.1 h
  exact List.take_left
theorem isPre_len {p s : List UInt8} (h : p.isPrefixOf s = true) : p.length ≤ s.length := by
  obtain ⟨r, rfl⟩ := List.isPrefixOf_iff_prefix.1 h
  simp
theorem sgF_ok (s : List UInt8) : ∀ l : List (List UInt8), (∀ x ∈ l, x ≠ []) → (sgF s l).1 = 0 ∨ ((sgF s l).1 = 4 ∧ (sgF s l).2 ∈ l ∧ (sgF s l).2.isPrefixOf s = true)
  | [], _ => .inl rfl
  | x :: r, h => by
    unfold sgF
    cases hx : x.isPrefixOf s with
    | true => exact .inr ⟨rfl, by simp, hx⟩
    | false =>
      rcases sgF_ok s r (fun y hy => h y (by simp [hy])) with h1 | ⟨h1, h2, h3⟩
      · exact .inl h1
      · exact .inr ⟨h1, by simp [h2], h3⟩
theorem sgns_ne : ∀ x ∈ sgns, x ≠ [] := by decide
/-- A word has letters, and it stands where the text begins. -/
theorem wordF_ok {s : List UInt8} (h : (wordF s).1 ≠ 0) : 0 < (wordF s).2.length ∧ (wordF s).2.length ≤ s.length ∧ s.take (wordF s).2.length = (wordF s).2 := by
  cases s with
  | nil => exact absurd rfl h
  | cons c r =>
    have tk (p : Int → Bool) (hp : p (c.toNat : Int) = true) : 0 < ((c :: r).take (whN p (c :: r))).length ∧ ((c :: r).take (whN p (c :: r))).length ≤ (c :: r).length ∧ (c :: r).take ((c :: r).take (whN p (c :: r))).length = (c :: r).take (whN p (c :: r)) := by
      have h1 := whN_le p (c :: r)
      have h2 : ((c :: r).take (whN p (c :: r))).length = whN p (c :: r) := by rw [List.length_take]; exact Nat.min_eq_left h1
      rw [h2]
      refine ⟨?_, h1, rfl⟩
      unfold whN; rw [hp]; exact Nat.succ_pos _
    rw [wordF_cons] at h ⊢
    cases hl : letB (c.toNat : Int) with
    | true =>
      rw [hl, cond_true] at h
      rw [cond_true]
      split at h
      · exact absurd rfl h
      · rename_i h64
        rw [if_neg h64]
        exact tk namB (by unfold namB; rw [hl]; rfl)
    | false =>
      rw [hl, cond_false] at h
      rw [cond_false]
      cases hd : digB (c.toNat : Int) with
      | true =>
        rw [hd, cond_true] at h
        rw [cond_true]
        cases hn : numB ((c :: r).take (whN digB (c :: r))) with
        | false => rw [hn] at h; exact absurd rfl h
        | true => exact tk digB hd
      | false =>
        rw [hd, cond_false] at h
        rw [cond_false]
        rcases sgF_ok (c :: r) sgns sgns_ne with h1 | ⟨h1, h2, h3⟩
        · exact absurd h1 h
        · exact ⟨List.length_pos_iff.2 (sgns_ne _ h2), isPre_len h3, isPre_take h3⟩
/-- A word: its kind, its text, where it stands. -/
abbrev Wd := Nat × List UInt8 × Nat
abbrev wAt (s : List UInt8) (a : Nat) : Nat × List UInt8 := wordF (s.drop a)
/-- Behind the word that stands at a. -/
def nxt (s : List UInt8) (a : Nat) : Nat := a + (wAt s a).2.length + bl false (s.drop (a + (wAt s a).2.length))
def cutG (s : List UInt8) : Nat → Nat → List Wd → List Wd × Option Nat
  | 0, _, ws => (ws, none)
  | f + 1, a, ws => if s.length ≤ a then (ws, none) else if (wAt s a).1 = 0 then (ws, some a) else cutG s f (nxt s a) (ws ++ [((wAt s a).1, (wAt s a).2, a)])
theorem nxt_gt {s : List UInt8} {a : Nat} (h : (wAt s a).1 ≠ 0) : a < nxt s a := by
  have : 0 < (wAt s a).2.length := (wordF_ok h).1
  unfold nxt; omega
theorem nxt_le {s : List UInt8} {a : Nat} (ha : a ≤ s.length) (h : (wAt s a).1 ≠ 0) : a + (wAt s a).2.length ≤ s.length ∧ nxt s a ≤ s.length := by
  have h1 : (wAt s a).2.length ≤ (s.drop a).length := (wordF_ok h).2.1
  rw [List.length_drop] at h1
  have h2 := bl_le (s.drop (a + (wAt s a).2.length)) false
  rw [List.length_drop] at h2
  unfold nxt; omega
theorem cutG_fuel (s : List UInt8) : ∀ (f g a : Nat) (ws : List Wd), s.length - a ≤ f → s.length - a ≤ g → cutG s f a ws = cutG s g a ws := by
  intro f
  induction f with
  | zero =>
    intro g a ws h1 h2
    cases g with
    | zero => rfl
    | succ g => unfold cutG; rw [if_pos (by omega)]
  | succ f ih =>
    intro g a ws h1 h2
    cases g with
    | zero => unfold cutG; rw [if_pos (by omega)]
    | succ g =>
      unfold cutG
      by_cases hl : s.length ≤ a
      · rw [if_pos hl, if_pos hl]
      · rw [if_neg hl, if_neg hl]
        by_cases h0 : (wAt s a).1 = 0
        · rw [if_pos h0, if_pos h0]
        · rw [if_neg h0, if_neg h0]
          have := nxt_gt h0
          exact ih g _ _ (by omega) (by omega)
/-- A text's words from a on, behind those that are known; where it fails. -/
def cut (s : List UInt8) (a : Nat) (ws : List Wd) : List Wd × Option Nat := cutG s (s.length - a) a ws
theorem cut_end {s : List UInt8} {a : Nat} (h : s.length ≤ a) (ws : List Wd) : cut s a ws = (ws, none) := by
  unfold cut; rw [show s.length - a = 0 by omega]; rfl
theorem cut_bad {s : List UInt8} {a : Nat} (h : a < s.length) (h0 : (wAt s a).1 = 0) (ws : List Wd) : cut s a ws = (ws, some a) := by
  unfold cut; rw [show s.length - a = (s.length - a - 1) + 1 by omega]
  unfold cutG; rw [if_neg (by omega), if_pos h0]
theorem cut_step {s : List UInt8} {a : Nat} (h : a < s.length) (h0 : (wAt s a).1 ≠ 0) (ws : List Wd) : cut s a ws = cut s (nxt s a) (ws ++ [((wAt s a).1, (wAt s a).2, a)]) := by
  have := nxt_gt h0
  conv => lhs; unfold cut; rw [show s.length - a = (s.length - a - 1) + 1 by omega]; unfold cutG
  rw [if_neg (by omega), if_neg h0]
  exact cutG_fuel s _ _ _ _ (by omega) (by omega)
/-- Words as cells. -/
def wCs : List Wd → List Value
  | [] => []
  | w :: r => iv (w.1 : Nat) :: st w.2.1 :: iv (w.2.2 : Nat) :: wCs r
theorem wCs_app : ∀ (a b : List Wd), wCs (a ++ b) = wCs a ++ wCs b
  | [], b => rfl
  | w :: r, b => by show _ :: _ :: _ :: wCs (r ++ b) = _; rw [wCs_app r b]; rfl
theorem wCs_len : ∀ a : List Wd, (wCs a).length = a.length * 3
  | [] => rfl
  | w :: r => by show (wCs r).length + 1 + 1 + 1 = (r.length + 1) * 3; rw [wCs_len r]; omega
theorem wCs_plain : ∀ (a : List Wd), ∀ v ∈ wCs a, plain1 v = true
  | [], v, h => by cases h
  | w :: r, v, h => by
    rcases List.mem_cons.1 h with rfl | h
    · rfl
    · rcases List.mem_cons.1 h with rfl | h
      · rfl
      · rcases List.mem_cons.1 h with rfl | h
        · rfl
        · exact wCs_plain r v h
abbrev nilV : Value := .slice none 0 0
abbrev ownV (m : Nat) : Value := .slice (some ⟨1, 0, none⟩) m 1
abbrev tsC : List Nat := [0, 2, 3, 4, 5, 6]
/-- The loop's state. -/
def stC (s : List UInt8) (ws : List Wd) (a : Nat) : St := match ws with
  | [] => stT tsC [st s, nilV, iv 0, iv 0, nilV, iv (a : Nat)] 48 (hV lq)
  | w :: r => stT tsC [st s, nilV, iv 0, iv 0, ownV (w :: r).length, iv (a : Nat)] 48 (mkHV lq [.row false 3 (wCs (w :: r))])
def outC (s : List UInt8) : List Wd × Option Nat → XA × St
  | (ws, none) => (.exit 0, stC s ws s.length)
  | (_, some n) => (.ret, stT [0, 2, 3, 4] [st s, nilV, iv (n : Nat), iv 6] 48 (hV lq))
noncomputable abbrev RC (ids : List Nat) (L : Value) (s : List UInt8) (n : Int) (h : AH) := RQ Tryd.prog lq (qA F4 []) (qK F4 []) noLK Tryd.f12 0 tsC ids [st s, nilV, iv 0, iv 0, L, iv n] h
abbrev sl (s : List UInt8) (n : Int) : List UInt8 := List.take (s.length - Int.toNat n) (List.drop (Int.toNat n) s)
abbrev n2 (s : List UInt8) (n : Int) : Int := IntKind.wrap IntKind.i64 (n + ((wordF (sl s n)).2.length : Nat))
abbrev RR := Option (XA × List Value × List Blk × Nat)
noncomputable abbrev cHead (s : List UInt8) (n : Int) (bad go done : RR) : RR := bif decide (n < (s.length : Int)) then bif decide (0 ≤ n) then bif Nat.ble (Int.toNat n) s.length then bif Nat.ble s.length s.length then bif tE then bif tst (sl s n ≠ [] ∧ (sl s n).length ≤ 100000) then bif ((wordF (sl s n)).1 : Int) == 0 then bad else go else none else none else none else none else none else done
noncomputable abbrev cTail (s : List UInt8) (n : Int) (x : RR) : RR := bif decide (0 ≤ n2 s n) then bif Nat.ble (Int.toNat (n2 s n)) s.length then bif Nat.ble s.length s.length then bif tE then bif tst ((sl s (n2 s n)).length ≤ 100000) then x else none else none else none else none else none
noncomputable abbrev cRow (m : Nat) (cs : List Value) (x : RR) : RR := bif Nat.ble (m + 1) 4294967296 then bif Nat.ble (0 + m * 3) cs.length then bif Nat.beq (0 + m * 3) cs.length then x else none else none else none
abbrev n3 (s : List UInt8) (n : Int) : Int := IntKind.wrap IntKind.i64 (n2 s n + (bl false (sl s (n2 s n)) : Nat))
theorem tA3 (s : List UInt8) (n : Int) : RC [3] nilV s n (hV lq) = cHead s n none (cTail s n (some (.normal, [st s, nilV, iv 0, iv 0, .slice (some ⟨3, 0, none⟩) 1 1, iv (n3 s n)], [.row false 3 [iv ((wordF (sl s n)).1 : Nat), st (wordF (sl s n)).2, iv n]], 48))) none := by kernel_rfl
theorem tA0 (s : List UInt8) (n : Int) : RC [] nilV s n (hV lq) = cHead s n (some (.ret, [st s, nilV, iv n, iv 6, nilV, iv n], [], 48)) (cTail s n (some (.normal, [st s, nilV, iv 0, iv 0, .slice (some ⟨3, 0, none⟩) 1 1, iv (n3 s n)], [], 48))) (some (.exit 0, [st s, nilV, iv 0, iv 0, nilV, iv n], [], 48)) := by kernel_rfl
theorem tB4 (s : List UInt8) (m : Nat) (n : Int) (cs : List Value) : RC [4] (ownV m) s n (mkHV lq [.row false 3 cs]) = cHead s n none (cRow m cs (cTail s n (some (.normal, [st s, nilV, iv 0, iv 0, .slice (some ⟨4, 0, none⟩) (m + 1) 1, iv (n3 s n)], [.row false 3 (List.take (m * 3) cs ++ [iv ((wordF (sl s n)).1 : Nat), st (wordF (sl s n)).2, iv n])], 48)))) none := by kernel_rfl
theorem tB1 (s : List UInt8) (m : Nat) (n : Int) (cs : List Value) : RC [1] (ownV m) s n (mkHV lq [.row false 3 cs]) = cHead s n (some (.ret, [st s, nilV, iv n, iv 6, ownV m, iv n], [.row false 3 cs], 48)) (cRow m cs (cTail s n none)) (some (.exit 0, [st s, nilV, iv 0, iv 0, ownV m, iv n], [.row false 3 cs], 48)) := by kernel_rfl
theorem sl_nat {s : List UInt8} {a : Nat} : sl s (a : Int) = s.drop a := by unfold sl; rw [Int.toNat_natCast]; exact slice_from
theorem cHead_go {s : List UInt8} {a : Nat} (hs : s.length ≤ 16384) (h : a < s.length) (h0 : (wAt s a).1 ≠ 0) (b g d : RR) : cHead s (a : Int) b g d = g := by
  have hne : s.drop a ≠ [] := by intro e; have := congrArg List.length e; rw [List.length_drop] at this; simp at this; omega
  unfold cHead
  rw [sl_nat, decide_eq_true (show (a : Int) < (s.length : Int) by omega), decide_eq_true (show (0 : Int) ≤ a by omega), Int.toNat_natCast, ble_t (show a ≤ s.length by omega), ble_t (Nat.le_refl s.length), tE_t, tst_of ⟨hne, by rw [List.length_drop]; omega⟩]
  have : (((wordF (s.drop a)).1 : Int) == 0) = false := by rw [beq_eq_false_iff_ne]; have h00 : (wordF (s.drop a)).1 ≠ 0 := h0; omega
  rw [this]; rfl
theorem cHead_bad {s : List UInt8} {a : Nat} (hs : s.length ≤ 16384) (h : a < s.length) (h0 : (wAt s a).1 = 0) (b g d : RR) : cHead s (a : Int) b g d = b := by
  have hne : s.drop a ≠ [] := by intro e; have := congrArg List.length e; rw [List.length_drop] at this; simp at this; omega
  unfold cHead
  rw [sl_nat, decide_eq_true (show (a : Int) < (s.length : Int) by omega), decide_eq_true (show (0 : Int) ≤ a by omega), Int.toNat_natCast, ble_t (show a ≤ s.length by omega), ble_t (Nat.le_refl s.length), tE_t, tst_of ⟨hne, by rw [List.length_drop]; omega⟩]
  have : (((wordF (s.drop a)).1 : Int) == 0) = true := by have h00 : (wordF (s.drop a)).1 = 0 := h0; rw [h00]; rfl
  rw [this]; rfl
theorem cHead_done {s : List UInt8} (b g d : RR) : cHead s (s.length : Nat) b g d = d := by
  unfold cHead; rw [decide_eq_false (Int.lt_irrefl _)]; rfl
theorem n2_eq {s : List UInt8} {a : Nat} (hs : s.length ≤ 16384) (h : a < s.length) (h0 : (wAt s a).1 ≠ 0) : n2 s (a : Int) = ((a + (wAt s a).2.length : Nat) : Int) := by
  have := (nxt_le (Nat.le_of_lt h) h0).1
  unfold n2; rw [sl_nat, i64w]
  have e : (wAt s a).2.length = (wordF (s.drop a)).2.length := rfl
  rw [e] at this ⊢; omega
theorem cTail_go {s : List UInt8} {a : Nat} (hs : s.length ≤ 16384) (h : a < s.length) (h0 : (wAt s a).1 ≠ 0) (x : RR) : cTail s (a : Int) x = x := by
  have h1 := (nxt_le (Nat.le_of_lt h) h0).1
  unfold cTail
  rw [n2_eq hs h h0, sl_nat, decide_eq_true (by omega), Int.toNat_natCast, ble_t h1, ble_t (Nat.le_refl s.length), tE_t, tst_of (by rw [List.length_drop]; omega)]; rfl
theorem n3_eq {s : List UInt8} {a : Nat} (hs : s.length ≤ 16384) (h : a < s.length) (h0 : (wAt s a).1 ≠ 0) : n3 s (a : Int) = (nxt s a : Nat) := by
  have h1 := (nxt_le (Nat.le_of_lt h) h0).2
  unfold n3; rw [n2_eq hs h h0, sl_nat, i64w]
  unfold nxt at h1 ⊢
  omega
theorem cRow_go {ws : List Wd} (h : ws.length ≤ 16384) (x : RR) : cRow ws.length (wCs ws) x = x := by
  unfold cRow
  rw [ble_t (by omega), ble_t (by rw [wCs_len]; omega), beq_t (by rw [wCs_len]; omega)]; rfl
noncomputable abbrev CBq (σ : St) := codeB Tryd.prog (glV lq) (regF Tryd.prog (glV lq)) (qA F4 []) noLO (loopN Tryd.f12 0) σ
theorem RC_some {ids : List Nat} {L : Value} {s : List UInt8} {n : Int} {h : AH} {y : XA} {us : List Value} {bs : List Blk} {k : Nat} (hr : RC ids L s n h = some (y, us, bs, k)) :
    ∃ σ1, CBq (stT tsC [st s, nilV, iv 0, iv 0, L, iv n] 48 h) = some (y, σ1) ∧ picks tsC σ1.T = some us ∧ picksH ids σ1.h = some bs ∧ σ1.n = k ∧ σ1.ds = [] := finHG_some (qK_ok F4 []) noLK_ok hr
/-- The row behind one more word. -/
theorem cov_row {s : List UInt8} {ws : List Wd} (hne : ws ≠ []) {a m k : Nat} {σ1 : St} (hk : 1 ≤ k) (hm : m = ws.length) (hp : picks tsC σ1.T = some [st s, nilV, iv 0, iv 0, .slice (some ⟨k, 0, none⟩) m 1, iv (a : Nat)]) (hb : picksH [k] σ1.h = some [.row false 3 (wCs ws)]) (hn : σ1.n = 48) (hd : σ1.ds = []) : Covers (glV lq) (hV lq) (stC s ws a) σ1 := by
  obtain ⟨w, r, rfl⟩ := List.exists_cons_of_ne_nil hne
  subst hm
  refine covers_HV lq_g (ids := [k]) (dl := [0]) hn hd hp hb rfl ?_ ?_ (by simp) (fun i hi => by rw [List.mem_singleton.1 hi]; exact hk) ?_
  · refine .cons (.plain _ rfl) (.cons (.plain _ rfl) (.cons (.plain _ rfl) (.cons (.plain _ rfl) (.cons ?_ (.cons (.plain _ rfl) .nil)))))
    exact .slc 1 0 0 _ 1 (show 1 < 1 + 1 by decide) rfl
  · intro j b b1 h0 h1
    match j with
    | 0 => cases h0; cases h1; exact ⟨rfl, rfl, Nat.zero_le _, RenL.plain (wCs_plain _)⟩
    | j + 1 => cases h0
  · intro b hb
    rw [List.mem_singleton.1 hb]; rfl
theorem cov_none {ts ts' : List Nat} {vs us : List Value} {σ1 : St} (hpl : ∀ v ∈ vs, plain1 v = true) (hp : picks ts σ1.T = some vs) (hn : σ1.n = 48) (hd : σ1.ds = []) : Covers (glV lq) (hV lq) (stT ts vs 48 (hV lq)) σ1 :=
  covers_HV (bs1 := []) (bs2 := []) lq_g (ids := []) (dl := []) hn hd hp rfl rfl (RenL.plain hpl) (fun i b b1 h => by simp at h) (by simp) (fun i hi => by cases hi) (fun b hb => by cases hb)
theorem picks_take : ∀ (ts : List Nat) (T : Tr Value) (us : List Value) (k : Nat), picks ts T = some us → picks (ts.take k) T = some (us.take k)
  | [], T, us, k, h => by cases h; simp [picks]
  | t :: ts, T, us, 0, h => rfl
  | t :: ts, T, us, k + 1, h => by
    unfold picks at h
    split at h
    · rename_i v hv
      split at h
      · rename_i vs hvs
        cases h
        rw [List.take_succ_cons, List.take_succ_cons]
        unfold picks
        rw [hv, picks_take ts T vs k hvs]
      · cases h
    · cases h
theorem picks_ret {T : Tr Value} {s : List UInt8} {a b c d e : Value} (h : picks tsC T = some [st s, a, b, c, d, e]) : picks [0, 2, 3, 4] T = some [st s, a, b, c] := picks_take tsC T _ 4 h
theorem cut_loop {s : List UInt8} (hs : s.length ≤ 16384) : LoopTri Tryd.prog (glV lq) (hV lq) (loopN Tryd.f12 0) (stC s [] (bl false s)) (outC s (cut s (bl false s) [])).1 (outC s (cut s (bl false s) [])).2 := by
  have hb := bl_le s false
  refine loop_rule (P := Tryd.prog) (X := {p : Nat × List Wd // p.1 ≤ s.length ∧ p.2.length ≤ p.1}) (regF_ok hmix) (qA_ok F4_ok []) noLO_ok (c := loopN Tryd.f12 0) (hE := hV lq) (fun p => stC s p.1.2 p.1.1) (fun p => s.length - p.1.1) (fun p => outC s (cut s p.1.1 p.1.2)) ?_ ⟨(bl false s, []), hb, Nat.zero_le _⟩
  rintro ⟨⟨a, ws⟩, ha, hw⟩
  dsimp only at ha hw ⊢
  by_cases hlt : a < s.length
  · by_cases h0 : (wAt s a).1 = 0
    · -- it fails here
      rw [cut_bad hlt h0]
      cases ws with
      | nil =>
        have h := tA0 s (a : Nat)
        rw [cHead_bad hs hlt h0] at h
        obtain ⟨σ1, g1, g2, g3, g4, g5⟩ := RC_some h
        exact ⟨.ret, σ1, g1, .inr ⟨by simp, rfl, cov_none (ts' := []) (us := []) (by simp [plain1]) (picks_ret g2) g4 g5⟩⟩
      | cons w r =>
        have h := tB1 s (w :: r).length (a : Nat) (wCs (w :: r))
        rw [cHead_bad hs hlt h0] at h
        obtain ⟨σ1, g1, g2, g3, g4, g5⟩ := RC_some h
        exact ⟨.ret, σ1, g1, .inr ⟨by simp, rfl, cov_none (ts' := []) (us := []) (by simp [plain1]) (picks_ret g2) g4 g5⟩⟩
    · -- one word more
      have k1 := nxt_gt h0
      have k2 := (nxt_le ha h0).2
      have hsl : wordF (sl s (a : Int)) = wAt s a := by rw [sl_nat]
      refine ⟨.normal, ?_⟩
      cases ws with
      | nil =>
        have h := tA3 s (a : Nat)
        rw [cHead_go hs hlt h0, cTail_go hs hlt h0, n3_eq hs hlt h0, hsl] at h
        obtain ⟨σ1, g1, g2, g3, g4, g5⟩ := RC_some h
        refine ⟨σ1, g1, .inl ⟨rfl, ⟨(nxt s a, [((wAt s a).1, (wAt s a).2, a)]), k2, by simp; omega⟩, by dsimp only; omega, ?_, ?_⟩⟩
        · dsimp only; rw [cut_step hlt h0]; rfl
        · exact cov_row (by simp) (k := 3) (by decide) rfl g2 g3 g4 g5
      | cons w r =>
        have h := tB4 s (w :: r).length (a : Nat) (wCs (w :: r))
        rw [cHead_go hs hlt h0, cRow_go (by omega), cTail_go hs hlt h0, n3_eq hs hlt h0, hsl, List.take_of_length_le (by rw [wCs_len]; exact Nat.le_refl _)] at h
        obtain ⟨σ1, g1, g2, g3, g4, g5⟩ := RC_some h
        refine ⟨σ1, g1, .inl ⟨rfl, ⟨(nxt s a, (w :: r) ++ [((wAt s a).1, (wAt s a).2, a)]), k2, by simp only [List.length_append, List.length_singleton]; omega⟩, by dsimp only; omega, ?_, ?_⟩⟩
        · dsimp only; rw [cut_step hlt h0]
        · refine cov_row (by simp) (k := 4) (by decide) (by simp) g2 ?_ g4 g5
          rw [wCs_app]; exact g3
  · obtain rfl : a = s.length := by omega
    rw [cut_end (Nat.le_refl _)]
    cases ws with
    | nil =>
      have h := tA0 s (s.length : Nat)
      rw [cHead_done] at h
      obtain ⟨σ1, g1, g2, g3, g4, g5⟩ := RC_some h
      exact ⟨.exit 0, σ1, g1, .inr ⟨by simp, rfl, cov_none (ts' := []) (us := []) (by simp [plain1]) g2 g4 g5⟩⟩
    | cons w r =>
      have h := tB1 s (w :: r).length (s.length : Nat) (wCs (w :: r))
      rw [cHead_done] at h
      obtain ⟨σ1, g1, g2, g3, g4, g5⟩ := RC_some h
      exact ⟨.exit 0, σ1, g1, .inr ⟨by simp, rfl, cov_row (by simp) (k := 1) (by decide) rfl g2 g3 g4 g5⟩⟩
/-- All of a text's words. -/
def cutAll (s : List UInt8) : List Wd × Option Nat := cut s (bl false s) []
def endW (s : List UInt8) (ws : List Wd) : List Wd := ws ++ [(0, [], s.length)]
abbrev okV (ws : List Wd) : Value := gslV ws.length 0 false (wCs ws)
def cutV (s : List UInt8) : List Wd × Option Nat → Value
  | (ws, none) => .tuple ⟨[okV (endW s ws), iv 0, iv 0]⟩
  | (_, some n) => .tuple ⟨[nilV, iv (n : Nat), iv 6]⟩
noncomputable abbrev lkP (r : Nat) (ts : List Nat) (pre : List Value) (n : Nat) (x : XA) (σ : St) : LoopK Value := lkQ r ts (fun vs h z => some (tst (vs = pre ∧ h = hV lq ∧ z = n), x, σ)) noLK
noncomputable abbrev loP (r : Nat) (ts : List Nat) (pre : List Value) (n : Nat) (x : XA) (σ : St) : LoopA := loQ r ts (fun vs h z => some (tst (vs = pre ∧ h = hV lq ∧ z = n), x, σ)) noLO
theorem loP_ok {cl : List Code} {r : Nat} {ts : List Nat} {pre : List Value} {n : Nat} {x : XA} {σ : St} (h : ∀ c ∈ cl, isReg r c = true → LoopTri Tryd.prog (glV lq) (hV lq) c (stT ts pre n (hV lq)) x σ) : LoopsOK Tryd.prog (glV lq) (hV lq) (loP r ts pre n x σ) cl := by
  refine loQ_ok (fun c' hc hr τ vs x' σ' hd hp h' => ?_) noLO_ok
  simp only [Option.some.injEq, Prod.mk.injEq] at h'
  obtain ⟨ht, rfl, rfl⟩ := h'
  obtain ⟨rfl, hh, hs⟩ := of_tst ht
  exact (h c' hc hr).enter (covers_T hs (picks_mkT hp) hh.symm hd.symm)
abbrev preC (s : List UInt8) : List Value := [st s, nilV, iv 0, iv 0, nilV, iv (bl false s : Nat)]
noncomputable abbrev RCu (x : XA) (σ : St) (s : List UInt8) := RF F4 [] (lkP 5 tsC (preC s) 48 x σ) Tryd.f12 [st s]
abbrev big (s : List UInt8) (x : Option Value) : Option Value := bif decide ((s.length : Int) > 16384) then some (.tuple ⟨[nilV, iv 0, iv 2]⟩) else x
noncomputable abbrev preT (s : List UInt8) (x : Option Value) : Option Value := big s (bif tE then bif tst (s.length ≤ 100000) then bif tst (preC s = preC s ∧ hV lq = hV lq ∧ 48 = 48) then x else none else none else none)
noncomputable abbrev gvT (cs : List Value) (x : Option Value) : Option Value := bif tst (∀ v ∈ cs, GVal v) then x else none
theorem ta (s : List UInt8) (a : Int) : RCu (.exit 0) (stT tsC [st s, nilV, iv 0, iv 0, nilV, iv a] 48 (hV lq)) s = preT s (gvT [iv 0, st [], iv (s.length : Nat)] (some (.tuple ⟨[gslV 1 0 false [iv 0, st [], iv (s.length : Nat)], iv 0, iv 0]⟩))) := by kernel_rfl
theorem tb (s : List UInt8) (a : Int) (m : Nat) (cs : List Value) : RCu (.exit 0) (stT tsC [st s, nilV, iv 0, iv 0, ownV m, iv a] 48 (mkHV lq [.row false 3 cs])) s = preT s (bif Nat.ble (m + 1) 4294967296 then bif Nat.ble (0 + m * 3) cs.length then bif Nat.beq (0 + m * 3) cs.length then gvT (List.take (m * 3) cs ++ [iv 0, st [], iv (s.length : Nat)]) (some (.tuple ⟨[gslV (m + 1) 0 false (List.take (m * 3) cs ++ [iv 0, st [], iv (s.length : Nat)]), iv 0, iv 0]⟩)) else none else none else none) := by kernel_rfl
theorem tc (s : List UInt8) (a : Int) : RCu .ret (stT [0, 2, 3, 4] [st s, nilV, iv a, iv 6] 48 (hV lq)) s = preT s (some (.tuple ⟨[nilV, iv a, iv 6]⟩)) := by kernel_rfl
theorem preT_ok {s : List UInt8} (hs : s.length ≤ 16384) (x : Option Value) : preT s x = x := by
  unfold preT big
  rw [decide_eq_false (by omega), tE_t, tst_of (by omega), tst_of ⟨rfl, rfl, rfl⟩]; rfl
theorem gvT_plain {cs : List Value} (h : ∀ v ∈ cs, plain1 v = true) (x : Option Value) : gvT cs x = x := by
  unfold gvT; rw [tst_of fun v hv => .plain v (h v hv)]; rfl
theorem cut_len {s : List UInt8} : ∀ (f a : Nat) (ws : List Wd), a ≤ s.length → ws.length ≤ a → (cutG s f a ws).1.length ≤ s.length := by
  intro f
  induction f with
  | zero => intro a ws h1 h2; exact Nat.le_trans h2 h1
  | succ f ih =>
    intro a ws h1 h2
    unfold cutG
    split
    · exact Nat.le_trans h2 h1
    · split
      · exact Nat.le_trans h2 h1
      · rename_i h0
        have := nxt_gt h0
        exact ih _ _ (nxt_le h1 h0).2 (by simp only [List.length_append, List.length_singleton]; omega)
theorem cut_run {s : List UInt8} (hs : s.length ≤ 16384) : RCu (outC s (cutAll s)).1 (outC s (cutAll s)).2 s = some (cutV s (cutAll s)) := by
  have hlen : (cutAll s).1.length ≤ s.length := cut_len _ _ _ (bl_le s false) (Nat.zero_le _)
  cases hc : cutAll s with
  | mk ws o =>
  rw [hc] at hlen
  cases o with
  | some n => exact (tc s (n : Nat)).trans (preT_ok hs _)
  | none =>
    cases ws with
    | nil =>
      refine (ta s (s.length : Nat)).trans ((preT_ok hs _).trans ((gvT_plain ?_ _).trans rfl))
      intro v hv
      rcases List.mem_cons.1 hv with rfl | hv
      · rfl
      · rcases List.mem_cons.1 hv with rfl | hv
        · rfl
        · rw [List.mem_singleton.1 hv]; rfl
    | cons w r =>
      have e : List.take ((w :: r).length * 3) (wCs (w :: r)) ++ [iv 0, st [], iv (s.length : Nat)] = wCs (endW s (w :: r)) := by
        rw [List.take_of_length_le (by rw [wCs_len]; exact Nat.le_refl _), endW, wCs_app]; rfl
      have h := tb s (s.length : Nat) (w :: r).length (wCs (w :: r))
      dsimp only at hlen
      rw [preT_ok hs, ble_t (by omega), ble_t (by rw [wCs_len]; omega), beq_t (by rw [wCs_len]; omega), e, gvT_plain (wCs_plain _)] at h
      refine h.trans ?_
      show some (Value.tuple ⟨[gslV ((w :: r).length + 1) 0 false (wCs (endW s (w :: r))), iv 0, iv 0]⟩) = some (Value.tuple ⟨[gslV (endW s (w :: r)).length 0 false (wCs (endW s (w :: r))), iv 0, iv 0]⟩)
      rw [show (endW s (w :: r)).length = (w :: r).length + 1 by unfold endW; simp]
theorem loops8 : loopsOf (bodyOf Tryd.f12) = [loopN Tryd.f12 0] := by kernel_rfl
theorem cut_con {s : List UInt8} (hs : s.length ≤ 16384) : ConQ Tryd.prog lq 12 [st s] (cutV s (cutAll s)) := by
  refine conQ hmix (qA_ok F4_ok []) (qK_ok F4 []) (lkQ_ok noLK_ok) Tryd.func12 rfl (by kernel_rfl) (loP_ok (fun c hc _ => ?_)) (cut_run hs)
  rw [loops8, List.mem_singleton] at hc
  subst hc
  exact cut_loop hs
def twoL : List (List UInt8) := [[61, 61], [33, 61], [60, 61], [62, 61], [60, 60], [62, 62], [38, 38], [124, 124]]
def oneL : List UInt8 := [40, 41, 123, 125, 91, 93, 44, 59, 46, 61, 60, 62, 43, 45, 42, 47, 37, 38, 124, 94, 33, 58]
theorem map_range {α : Type} {n : Nat} {f g : Nat → α} (h : (List.range n).map f = (List.range n).map g) {k : Nat} (hk : k < n) : f k = g k := by
  have := congrArg (fun l => l[k]?) h
  simpa [hk] using this
def H2 : AH := mkHV lq [.row false 1 (twoL.map st)]
abbrev twoV : Value := .slice (some ⟨1, 0, none⟩) 8 0
abbrev vs2 (s : List UInt8) (i : Nat) : List Value := [st s, st [], twoV, iv (i : Int)]
noncomputable abbrev R2 (s : List UInt8) (i : Nat) := bodyRunK Tryd.prog (glV lq) (qA noG []) (qK noG []) noLK (loopN Tryd.f18 0) (stT [0, 2, 3, 4] (vs2 s i) 44 H2) [0, 2, 3, 4]
abbrev R4 := Option (XA × List Value × AH × Nat)
noncomputable abbrev T2 (s : List UInt8) (i : Nat) : R4 := bif decide ((s.length : Int) ≥ 2) then bif Nat.ble (Int.toNat 2) s.length then bif List.take (Int.toNat 2) s == twoL.getD i [] then some (.ret, [st s, st (twoL.getD i []), twoV, iv (i : Int)], H2, 44) else some (.normal, vs2 s (i + 1), H2, 44) else none else some (.normal, vs2 s (i + 1), H2, 44)
set_option maxRecDepth 100000 in
theorem t2 (s : List UInt8) : (List.range 8).map (R2 s) = (List.range 8).map (T2 s) := by kernel_rfl
theorem t2e (s : List UInt8) : R2 s 8 = some (.exit 0, vs2 s 8, H2, 44) := by kernel_rfl
/-- The sign of two bytes that a text begins with, from the i-th on. -/
def two? (s : List UInt8) : List (List UInt8) → Option (List UInt8)
  | [] => none
  | x :: r => if x.isPrefixOf s = true then some x else two? s r
def out2 (s : List UInt8) : Option (List UInt8) → XA × St
  | none => (.exit 0, stT [0, 2] [st s, st []] 44 H2)
  | some x => (.ret, stT [2] [st x] 44 H2)
theorem two_loop (s : List UInt8) : LoopTri Tryd.prog (glV lq) (hV lq) (loopN Tryd.f18 0) (stT [0, 2, 3, 4] (vs2 s 0) 44 H2) (out2 s (two? s twoL)).1 (out2 s (two? s twoL)).2 := by
  have hpre (x : List UInt8) (hx : x.length = 2) : x.isPrefixOf s = true ↔ (2 ≤ s.length ∧ List.take 2 s = x) := by
    constructor
    · intro h; exact ⟨by have := isPre_len h; omega, by have := isPre_take h; rwa [hx] at this⟩
    · rintro ⟨h1, h2⟩
      rw [List.isPrefixOf_iff_prefix]
      exact ⟨s.drop 2, Eq.trans (congrArg (· ++ s.drop 2) h2.symm) (List.take_append_drop _ _)⟩
  have h2 : ∀ x ∈ twoL, x.length = 2 := by decide
  refine loop_rule (P := Tryd.prog) (X := {i : Nat // i ≤ 8}) (regF_ok hmix) (qA_ok noQ_ok []) noLO_ok (c := loopN Tryd.f18 0) (hE := hV lq) (fun i => stT [0, 2, 3, 4] (vs2 s i.1) 44 H2) (fun i => 8 - i.1) (fun i => out2 s (two? s (twoL.drop i.1))) ?_ ⟨0, by decide⟩
  rintro ⟨i, hi⟩
  dsimp only
  by_cases hlt : i < 8
  · have h := map_range (t2 s) hlt
    have hi2 : i < twoL.length := hlt
    have hx : twoL.getD i [] = twoL[i] := by rw [List.getD_eq_getElem?_getD, List.getElem?_eq_getElem hi2]; rfl
    have hd : twoL.drop i = twoL[i] :: twoL.drop (i + 1) := List.drop_eq_getElem_cons hi2
    have hl := h2 _ (List.getElem_mem hi2)
    have hgo (hne : twoL[i].isPrefixOf s = false) (h : R2 s i = some (.normal, vs2 s (i + 1), H2, 44)) : ∃ y σ1, codeB Tryd.prog (glV lq) (regF Tryd.prog (glV lq)) (qA noG []) noLO (loopN Tryd.f18 0) (stT [0, 2, 3, 4] (vs2 s i) 44 H2) = some (y, σ1) ∧
        ((y = .normal ∧ ∃ x' : {i : Nat // i ≤ 8}, 8 - x'.1 < 8 - i ∧ out2 s (two? s (twoL.drop x'.1)) = out2 s (two? s (twoL.drop i)) ∧ Covers (glV lq) (hV lq) (stT [0, 2, 3, 4] (vs2 s x'.1) 44 H2) σ1) ∨ (y ≠ .normal ∧ (out2 s (two? s (twoL.drop i))).1 = y ∧ Covers (glV lq) (hV lq) (out2 s (two? s (twoL.drop i))).2 σ1)) := by
      obtain ⟨σ1, g1, g2, g3, g4, g5⟩ := bodyRunK_some (qK_ok noG []) noLK_ok h
      refine ⟨_, σ1, g1, .inl ⟨rfl, ⟨i + 1, hlt⟩, by dsimp only; omega, ?_, covers_T g4 (picks_mkT g2) g3.symm g5.symm⟩⟩
      dsimp only
      rw [hd]
      conv => rhs; unfold two?
      rw [if_neg (by rw [hne]; simp)]
    rw [T2, hx] at h
    by_cases h2s : 2 ≤ s.length
    · rw [decide_eq_true (show (s.length : Int) ≥ 2 by omega), show Nat.ble (Int.toNat 2) s.length = true from ble_t h2s, cond_true, cond_true] at h
      by_cases he : List.take 2 s = twoL[i]
      · have hp := (hpre _ hl).2 ⟨h2s, he⟩
        rw [show (List.take (Int.toNat 2) s == twoL[i]) = true from by rw [show List.take (Int.toNat 2) s = List.take 2 s from rfl, he]; exact beq_self_eq_true _, cond_true] at h
        obtain ⟨σ1, g1, g2, g3, g4, g5⟩ := bodyRunK_some (qK_ok noG []) noLK_ok h
        refine ⟨_, σ1, g1, .inr ⟨by simp, ?_, ?_⟩⟩
        · rw [hd]; unfold two?; rw [if_pos hp]; rfl
        · rw [hd]; unfold two?; rw [if_pos hp]
          have := picks_take (ts := [0, 2, 3, 4]) (k := 2) _ _ g2
          refine covers_T g4 (fun t v ht => picks_mkT g2 t v ?_) g3.symm g5.symm
          have ht' : (mkT [2] [st twoL[i]]).get t = some v := ht
          simp only [mkT, Tr.get_set, Tr.get_nil] at ht' ⊢
          by_cases h2t : t = 2
          · subst h2t; simpa using ht'
          · rw [if_neg h2t] at ht'; cases ht'
      · rw [show (List.take (Int.toNat 2) s == twoL[i]) = false from beq_false_of_ne he, cond_false] at h
        exact hgo (by rw [← Bool.not_eq_true]; exact fun hp => he ((hpre _ hl).1 hp).2) h
    · rw [decide_eq_false (show ¬ (s.length : Int) ≥ 2 by omega), cond_false] at h
      exact hgo (by rw [← Bool.not_eq_true]; exact fun hp => h2s ((hpre _ hl).1 hp).1) h
  · obtain rfl : i = 8 := by omega
    obtain ⟨σ1, g1, g2, g3, g4, g5⟩ := bodyRunK_some (qK_ok noG []) noLK_ok (t2e s)
    refine ⟨_, σ1, g1, .inr ⟨by simp, rfl, ?_⟩⟩
    refine covers_T g4 (fun t v ht => picks_mkT g2 t v ?_) g3.symm g5.symm
    have ht' : (mkT [0, 2] [st s, st []]).get t = some v := ht
    simp only [mkT, Tr.get_set, Tr.get_nil] at ht' ⊢
    by_cases h0 : t = 0
    · subst h0; simpa using ht'
    · by_cases h2t : t = 2
      · subst h2t; simpa using ht'
      · rw [if_neg h0, if_neg h2t] at ht'; cases ht'
noncomputable abbrev f2o (s : List UInt8) (x : XA) (σ : St) : List Value → AH → Nat → Option (Bool × XA × St) := fun vs h z => some (tst (vs = vs2 s 0 ∧ h = H2 ∧ z = 44), x, σ)
noncomputable abbrev RS (x : XA) (σ : St) (s : List UInt8) := RF noG [] (lkQ 3 [0, 2, 3, 4] (f2o s x σ) (lkIt Tryd.prog (glV lq) (qA noG []) (qK noG []) noLK 40)) Tryd.f18 [st s]
noncomputable def sg1 (s : List UInt8) : List UInt8 → Option Value
  | [] => some (st [])
  | x :: r => bif Nat.ble (Int.toNat 0 + 1) s.length then bif byteAt s (Int.toNat 0) == ((x.toNat : Nat) : Int) then bif Nat.ble (Int.toNat 1) s.length then some (st (List.take (Int.toNat 1) s)) else none else sg1 s r else none
set_option maxRecDepth 100000 in
theorem tSn (s : List UInt8) : RS (.exit 0) (stT [0, 2] [st s, st []] 44 H2) s = bif tst (vs2 s 0 = vs2 s 0 ∧ H2 = H2 ∧ 44 = 44) then sg1 s oneL else none := by kernel_rfl
theorem tSs (s x : List UInt8) : RS .ret (stT [2] [st x] 44 H2) s = bif tst (vs2 s 0 = vs2 s 0 ∧ H2 = H2 ∧ 44 = 44) then some (st x) else none := by kernel_rfl
theorem u8_eq {a b : UInt8} : ((a.toNat : Int) == (b.toNat : Int)) = (a == b) := by
  by_cases h : a = b
  · subst h; rw [beq_self_eq_true, beq_self_eq_true]
  · rw [beq_false_of_ne h, beq_eq_false_iff_ne]
    intro e
    exact h (UInt8.toNat_inj.1 (Int.ofNat.inj e))
theorem sg1_eq (c : UInt8) (r : List UInt8) : ∀ l : List UInt8, sg1 (c :: r) l = some (st (sgF (c :: r) (l.map fun x => [x])).2)
  | [] => rfl
  | x :: l => by
    have h1 : Nat.ble (Int.toNat 0 + 1) (c :: r).length = true := ble_t (by simp)
    have h2 : Nat.ble (Int.toNat 1) (c :: r).length = true := ble_t (by simp)
    have hb : byteAt (c :: r) (Int.toNat 0) = (c.toNat : Int) := rfl
    have hp : [x].isPrefixOf (c :: r) = (c == x) := by
      show (x == c && List.isPrefixOf [] r) = (c == x)
      rw [show List.isPrefixOf [] r = true by cases r <;> rfl, Bool.and_true, Bool.eq_iff_iff]
      simp only [beq_iff_eq]; exact eq_comm
    unfold sg1
    rw [h1, h2, hb, u8_eq, List.map_cons]
    unfold sgF
    rw [hp]
    cases hc : c == x with
    | true =>
      have : c = x := by simpa using hc
      subst this; rfl
    | false => exact sg1_eq c r l
theorem sgF_two (s : List UInt8) (B : List (List UInt8)) : ∀ A : List (List UInt8), sgF s (A ++ B) = match two? s A with
    | some x => (4, x)
    | none => sgF s B
  | [] => rfl
  | x :: A => by
    show (bif x.isPrefixOf s then (4, x) else sgF s (A ++ B)) = _
    unfold two?
    by_cases h : x.isPrefixOf s = true
    · rw [h, if_pos rfl]; rfl
    · rw [if_neg h, (Bool.not_eq_true _).mp h]; exact sgF_two s B A
theorem sgns_eq : sgns = twoL ++ oneL.map (fun x => [x]) := by decide
theorem loops17 : loopsOf (bodyOf Tryd.f18) = [loopN Tryd.f18 0, loopN Tryd.f18 1] := by kernel_rfl
theorem isReg17 : isReg 3 (loopN Tryd.f18 1) = false := by kernel_rfl
theorem inner17 : ((loopsOf (bodyOf Tryd.f18)).all fun c => (loopsOf c).isEmpty) = true := by kernel_rfl
theorem sign_con {s : List UInt8} (h : s ≠ []) : ConQ Tryd.prog lq 18 [st s] (st (sgF s sgns).2) := by
  obtain ⟨c, r, rfl⟩ := List.exists_cons_of_ne_nil h
  have key : RS (out2 (c :: r) (two? (c :: r) twoL)).1 (out2 (c :: r) (two? (c :: r) twoL)).2 (c :: r) = some (st (sgF (c :: r) sgns).2) := by
    rw [sgns_eq, sgF_two]
    cases two? (c :: r) twoL with
    | none => exact (tSn _).trans (by rw [tst_of ⟨rfl, rfl, rfl⟩]; exact sg1_eq c r oneL)
    | some x => exact (tSs _ x).trans (by rw [tst_of ⟨rfl, rfl, rfl⟩]; rfl)
  refine conQ hmix (qA_ok noQ_ok []) (qK_ok noG []) (lkQ_ok (lkIt_ok (qK_ok noG []) noLK_ok 40)) Tryd.func18 rfl (by kernel_rfl) (loQ_ok (fun c' hc hr τ vs x' σ' hd hp h' => ?_) (loIt_ok hmix (qA_ok noQ_ok []) (fun c' hc => by
    have := List.all_eq_true.1 inner17 c' hc
    rw [List.isEmpty_iff.1 this]
    intro c'' hc''; cases hc'') 40)) key
  simp only [f2o, Option.some.injEq, Prod.mk.injEq] at h'
  obtain ⟨ht, rfl, rfl⟩ := h'
  obtain ⟨rfl, hh, hs⟩ := of_tst ht
  rw [loops17] at hc
  rcases List.mem_cons.1 hc with rfl | hc
  · exact (two_loop (c :: r)).enter (covers_T hs (picks_mkT hp) hh.symm hd.symm)
  · rw [List.mem_singleton.1 hc, isReg17] at hr; cases hr
/-- Digits' number. -/
def pv (acc : Nat) (l : List UInt8) : Nat := l.foldl (fun v b => v * 10 + (b.toNat - 48)) acc
theorem pv_ge : ∀ (l : List UInt8) (acc : Nat), acc ≤ pv acc l
  | [], acc => Nat.le_refl _
  | b :: r, acc => Nat.le_trans (by omega) (pv_ge r (acc * 10 + (b.toNat - 48)))
def allDig (l : List UInt8) : Prop := ∀ b ∈ l, digB (b.toNat : Int) = true
theorem dig_iff {b : UInt8} (h : digB (b.toNat : Int) = true) : 48 ≤ b.toNat ∧ b.toNat ≤ 57 := by
  unfold digB at h
  rw [Bool.and_eq_true, decide_eq_true_eq, decide_eq_true_eq] at h
  omega
theorem parse_pv : ∀ (l : List UInt8) (acc : Nat), allDig l → acc ≤ 2 ^ 64 - 1 → (pv acc l ≤ 2 ^ 64 - 1 → Lib.parseUintM (2 ^ 64 - 1) acc l = .ok (pv acc l)) ∧ (2 ^ 64 - 1 < pv acc l → Lib.parseUintM (2 ^ 64 - 1) acc l = .range)
  | [], acc, _, ha => ⟨fun _ => rfl, fun h => by
    have h2 : pv acc [] = acc := rfl
    omega⟩
  | b :: r, acc, hd, ha => by
    obtain ⟨h1, h2⟩ := dig_iff (hd b (by simp))
    have hr := parse_pv r (acc * 10 + (b.toNat - 48)) (fun x hx => hd x (by simp [hx]))
    have hge := pv_ge r (acc * 10 + (b.toNat - 48))
    have e : pv acc (b :: r) = pv (acc * 10 + (b.toNat - 48)) r := rfl
    rw [e]
    unfold Lib.parseUintM
    rw [if_pos ⟨h1, h2⟩]
    by_cases g1 : 1844674407370955162 ≤ acc
    · rw [if_pos g1]
      exact ⟨fun h => by omega, fun _ => rfl⟩
    · rw [if_neg g1]
      by_cases g2 : 2 ^ 64 - 1 < acc * 10 + (b.toNat - 48)
      · rw [if_pos g2]
        exact ⟨fun h => by omega, fun _ => rfl⟩
      · rw [if_neg g2]
        exact hr (by omega)
theorem numB_pv {t : List UInt8} (h0 : t ≠ []) (hd : allDig t) : numB t = decide (pv 0 t ≤ 4611686018427387903) := by
  have h := parse_pv t 0 hd (Nat.zero_le _)
  unfold numB Lib.parseUintB
  rw [if_neg h0]
  by_cases hle : pv 0 t ≤ 2 ^ 64 - 1
  · rw [h.1 hle]; rfl
  · rw [h.2 (by omega), decide_eq_false (by omega)]; rfl
theorem pv_add : ∀ (l : List UInt8) (acc : Nat), pv acc l = acc * 10 ^ l.length + pv 0 l
  | [], acc => by show acc = acc * 10 ^ 0 + 0; omega
  | b :: r, acc => by
    show pv (acc * 10 + (b.toNat - 48)) r = acc * 10 ^ (r.length + 1) + pv (0 * 10 + (b.toNat - 48)) r
    rw [pv_add r (acc * 10 + (b.toNat - 48)), pv_add r (0 * 10 + (b.toNat - 48)), Nat.pow_succ, Nat.zero_mul, Nat.zero_add, Nat.add_mul, Nat.add_assoc]
    congr 1
    rw [Nat.mul_assoc, Nat.mul_comm 10]
theorem pv_lt : ∀ (l : List UInt8), allDig l → pv 0 l < 10 ^ l.length
  | [], _ => by show 0 < 10 ^ 0; decide
  | b :: r, h => by
    obtain ⟨h1, h2⟩ := dig_iff (h b (by simp))
    have hr := pv_lt r (fun x hx => h x (by simp [hx]))
    show pv (0 * 10 + (b.toNat - 48)) r < 10 ^ (r.length + 1)
    rw [pv_add, Nat.zero_mul, Nat.zero_add, Nat.pow_succ]
    have : (b.toNat - 48) * 10 ^ r.length ≤ 9 * 10 ^ r.length := Nat.mul_le_mul_right _ (by omega)
    omega
theorem less_pv : ∀ (a b : List UInt8), a.length = b.length → allDig a → allDig b → (Op.bytesLess a b || a == b) = decide (pv 0 a ≤ pv 0 b)
  | [], [], _, _, _ => rfl
  | x :: a, y :: b, hl, ha, hb => by
    have hl' : a.length = b.length := by simpa using hl
    obtain ⟨x1, x2⟩ := dig_iff (ha x (by simp))
    obtain ⟨y1, y2⟩ := dig_iff (hb y (by simp))
    have ha' : allDig a := fun z hz => ha z (by simp [hz])
    have hb' : allDig b := fun z hz => hb z (by simp [hz])
    have ih := less_pv a b hl' ha' hb'
    have la := pv_lt a ha'
    have lb := pv_lt b hb'
    have ea : pv 0 (x :: a) = (x.toNat - 48) * 10 ^ a.length + pv 0 a := by
      show pv (0 * 10 + (x.toNat - 48)) a = _
      rw [pv_add, Nat.zero_mul, Nat.zero_add]
    have eb : pv 0 (y :: b) = (y.toNat - 48) * 10 ^ a.length + pv 0 b := by
      show pv (0 * 10 + (y.toNat - 48)) b = _
      rw [pv_add, Nat.zero_mul, Nat.zero_add, hl']
    rw [ea, eb]
    rw [← hl'] at lb
    unfold Op.bytesLess
    by_cases hxy : x = y
    · subst hxy
      have e1 : decide (x < x) = false := decide_eq_false (by exact UInt8.lt_irrefl x)
      rw [e1, beq_self_eq_true, Bool.false_or, Bool.true_and, show ((x :: a) == (x :: b)) = (a == b) by simp, ih]
      rw [Bool.eq_iff_iff]; simp
    · have hne : ((x :: a) == (y :: b)) = false := beq_false_of_ne (fun e => hxy (List.cons.inj e).1)
      rw [hne, Bool.or_false, beq_false_of_ne hxy, Bool.false_and, Bool.or_false]
      have hxn : x.toNat ≠ y.toNat := fun e => hxy (UInt8.toNat_inj.1 e)
      by_cases hlt : x.toNat < y.toNat
      · rw [decide_eq_true (show x < y from hlt), decide_eq_true]
        have : (x.toNat - 48 + 1) * 10 ^ a.length ≤ (y.toNat - 48) * 10 ^ a.length := Nat.mul_le_mul_right _ (by omega)
        rw [Nat.add_mul, Nat.one_mul] at this
        omega
      · rw [decide_eq_false (show ¬ x < y from hlt), decide_eq_false]
        have : (y.toNat - 48 + 1) * 10 ^ a.length ≤ (x.toNat - 48) * 10 ^ a.length := Nat.mul_le_mul_right _ (by omega)
        rw [Nat.add_mul, Nat.one_mul] at this
        omega
  | [], y :: b, hl, _, _ => by simp at hl
  | x :: a, [], hl, _, _ => by simp at hl
/-- Without the zeros ahead. -/
def strip : List UInt8 → List UInt8
  | [] => []
  | [c] => [c]
  | c :: d :: r => if c = 48 then strip (d :: r) else c :: d :: r
def mx19 : List UInt8 := [52, 54, 49, 49, 54, 56, 54, 48, 49, 56, 52, 50, 55, 51, 56, 55, 57, 48, 51]
def fitB (t : List UInt8) : Option Value := bif decide ((t.length : Int) < 19) then bT else bif (t.length : Int) == 19 then (bif Op.bytesLess t mx19 || t == mx19 then bT else bF) else bF
theorem strip_ok : ∀ (t : List UInt8), t ≠ [] → allDig t → strip t ≠ [] ∧ allDig (strip t) ∧ pv 0 (strip t) = pv 0 t ∧ ((strip t).length = 1 ∨ 10 ^ ((strip t).length - 1) ≤ pv 0 (strip t))
  | [], h, _ => absurd rfl h
  | [c], _, hd => ⟨by simp [strip], hd, rfl, .inl rfl⟩
  | c :: d :: r, _, hd => by
    unfold strip
    by_cases hc : c = 48
    · subst hc
      rw [if_pos rfl]
      obtain ⟨h1, h2, h3, h4⟩ := strip_ok (d :: r) (by simp) (fun x hx => hd x (by simp [hx]))
      exact ⟨h1, h2, h3, h4⟩
    · rw [if_neg hc]
      refine ⟨by simp, hd, rfl, .inr ?_⟩
      obtain ⟨h1, h2⟩ := dig_iff (hd c (by simp))
      have hn : c.toNat ≠ 48 := fun e => hc (UInt8.toNat_inj.1 (by rw [e]; rfl))
      show 10 ^ (d :: r).length ≤ pv (0 * 10 + (c.toNat - 48)) (d :: r)
      rw [pv_add, Nat.zero_mul, Nat.zero_add]
      have : 1 * 10 ^ (d :: r).length ≤ (c.toNat - 48) * 10 ^ (d :: r).length := Nat.mul_le_mul_right _ (by omega)
      omega
theorem mx_dig : allDig mx19 := by unfold allDig; decide
theorem mx_pv : pv 0 mx19 = 4611686018427387903 := by decide
theorem fit_num {t : List UInt8} (h0 : t ≠ []) (hd : allDig t) : fitB (strip t) = bo (numB t) := by
  obtain ⟨h1, h2, h3, h4⟩ := strip_ok t h0 hd
  rw [numB_pv h0 hd, ← h3]
  have hlt := pv_lt _ h2
  unfold fitB
  by_cases ha : (strip t).length < 19
  · rw [decide_eq_true (show ((strip t).length : Int) < 19 by omega), decide_eq_true]
    · rfl
    · have : 10 ^ (strip t).length ≤ 10 ^ 18 := Nat.pow_le_pow_right (by decide) (by omega)
      have e : (10 : Nat) ^ 18 = 1000000000000000000 := by decide
      omega
  · rw [decide_eq_false (show ¬ ((strip t).length : Int) < 19 by omega)]
    by_cases hb : (strip t).length = 19
    · rw [show (((strip t).length : Int) == 19) = true by rw [beq_iff_eq]; omega, less_pv _ _ (by rw [hb]; rfl) h2 mx_dig, mx_pv]
      simp only [cond_true, cond_false]
      cases decide (pv 0 (strip t) ≤ 4611686018427387903) <;> rfl
    · rw [show (((strip t).length : Int) == 19) = false by rw [beq_eq_false_iff_ne]; omega, decide_eq_false]
      · rfl
      · rcases h4 with h4 | h4
        · omega
        · have : (10 : Nat) ^ 19 ≤ 10 ^ ((strip t).length - 1) := Nat.pow_le_pow_right (by decide) (by omega)
          have e : (10 : Nat) ^ 19 = 10000000000000000000 := by decide
          omega
noncomputable abbrev ZF (s : List UInt8) := ZQ Tryd.prog lq (qA noG []) (qK noG []) noLK Tryd.f17 0 [0] [st s]
theorem tF (s : List UInt8) : ZF s = bif decide ((s.length : Int) > 1) then bif Nat.ble (Int.toNat 0 + 1) s.length then bif byteAt s (Int.toNat 0) == 48 then bif Nat.ble (Int.toNat 1) s.length then bif Nat.ble s.length s.length then some (.normal, [st (List.take (s.length - Int.toNat 1) (List.drop (Int.toNat 1) s))], hV lq, 31) else none else none else some (.exit 0, [st s], hV lq, 31) else none else some (.exit 0, [st s], hV lq, 31) := by kernel_rfl
set_option maxRecDepth 100000 in
theorem fit_loop (s : List UInt8) : LoopTri Tryd.prog (glV lq) (hV lq) (loopN Tryd.f17 0) (stT [0] [st s] 31 (hV lq)) (.exit 0) (stT [0] [st (strip s)] 31 (hV lq)) := by
  refine loop_plainO hmix (qA_ok noQ_ok []) (qK_ok noG []) noLK_ok noLO_ok (c := loopN Tryd.f17 0) [0] (X := List UInt8) (fun t => [st t]) (fun t => t.length) (fun t => (.exit 0, [st (strip t)])) (fun t => ?_) s
  have h := tF t
  match t, h with
  | [], h => exact ⟨_, _, h, .inr ⟨by simp, rfl⟩⟩
  | [c], h => exact ⟨_, _, h, .inr ⟨by simp, rfl⟩⟩
  | c :: d :: r, h =>
    have hb : byteAt (c :: d :: r) (Int.toNat 0) = (c.toNat : Int) := rfl
    have hsl : List.take ((c :: d :: r).length - Int.toNat 1) (List.drop (Int.toNat 1) (c :: d :: r)) = d :: r := by
      show List.take (r.length + 1 + 1 - 1) (d :: r) = d :: r
      exact List.take_of_length_le (by simp)
    rw [decide_eq_true (show (((c :: d :: r).length : Nat) : Int) > 1 by simp only [List.length_cons]; omega), show Nat.ble (Int.toNat 0 + 1) (c :: d :: r).length = true from ble_t (by simp), show Nat.ble (Int.toNat 1) (c :: d :: r).length = true from ble_t (by simp), ble_t (Nat.le_refl _), hsl, hb] at h
    simp only [cond_true] at h
    by_cases hc : c = 48
    · subst hc
      refine ⟨_, _, h, .inl ⟨rfl, d :: r, rfl, by simp, ?_⟩⟩
      show (XA.exit 0, [st (strip (d :: r))]) = (XA.exit 0, [st (strip (48 :: d :: r))])
      conv => rhs; unfold strip
      rw [if_pos rfl]
    · rw [show ((c.toNat : Int) == 48) = false by rw [beq_eq_false_iff_ne]; intro e; exact hc (UInt8.toNat_inj.1 (Int.ofNat.inj e))] at h
      refine ⟨_, _, h, .inr ⟨by simp, ?_⟩⟩
      conv => lhs; unfold strip
      rw [if_neg hc]
theorem loops16 : loopsOf (bodyOf Tryd.f17) = [loopN Tryd.f17 0] := by kernel_rfl
theorem tF2 (s t : List UInt8) : RF noG [] (lkP 1 [0] [st s] 31 (.exit 0) (stT [0] [st t] 31 (hV lq))) Tryd.f17 [st s] = bif tst ([st s] = [st s] ∧ hV lq = hV lq ∧ 31 = 31) then fitB t else none := by kernel_rfl
theorem fits_con {t : List UInt8} (h0 : t ≠ []) (hd : allDig t) : ConQ Tryd.prog lq 17 [st t] (.bool (numB t)) := by
  have key := tF2 t (strip t)
  rw [tst_of ⟨rfl, rfl, rfl⟩, fit_num h0 hd] at key
  refine conQ hmix (qA_ok noQ_ok []) (qK_ok noG []) (lkQ_ok noLK_ok) Tryd.func17 rfl (by kernel_rfl) (loP_ok (fun c hc _ => ?_)) key
  rw [loops16, List.mem_singleton] at hc
  subst hc
  exact fit_loop t
noncomputable def sgE (ar : List Value) : Option (Bool × Value) := match ar with
  | [.string s] => some (tst (s.data.toList ≠ []), st (sgF s.data.toList sgns).2)
  | _ => none
noncomputable def ftE (ar : List Value) : Option (Bool × Value) := match ar with
  | [.string s] => some (tst (s.data.toList ≠ [] ∧ allDig s.data.toList), .bool (numB s.data.toList))
  | _ => none
noncomputable def F5 : TabF := andG 18 sgE <| andG 17 ftE F4
theorem F5_ok : TabQ Tryd.prog lq F5 :=
  andQ_ok Tryd.func18 rfl (by kernel_rfl) (fun ar v h => by
    unfold sgE at h
    split at h
    · rename_i s
      obtain ⟨⟨s⟩⟩ := s
      obtain ⟨ht, rfl⟩ := Prod.mk.inj (Option.some.inj h)
      exact sign_con (of_tst ht)
    · cases h) <|
  andQ_ok Tryd.func17 rfl (by kernel_rfl) (fun ar v h => by
    unfold ftE at h
    split at h
    · rename_i s
      obtain ⟨⟨s⟩⟩ := s
      obtain ⟨ht, rfl⟩ := Prod.mk.inj (Option.some.inj h)
      exact fits_con (of_tst ht).1 (of_tst ht).2
    · cases h) F4_ok
noncomputable def inn (j : Nat) : Code := (loopsOf (loopN Tryd.f10 0)).getD j .skip
abbrev tsR : List Nat := [0, 2, 3, 4, 5]
abbrev tsI : List Nat := [0, 2, 3, 4, 5, 7, 8]
noncomputable def fR : List Value → AH → Nat → Option (Bool × XA × St) := fun vs h n => match vs with
  | [.string t, v2, v3, v4, .int .i64 a] => some (tst (0 ≤ a ∧ a ≤ t.data.toList.length ∧ t.data.toList.length ≤ 16384 ∧ n = 149), .exit 2, stT tsR [.string t, v2, v3, v4, .int .i64 (a + (whN nlB (t.data.toList.drop a.toNat) : Nat))] 149 h)
  | _ => none
noncomputable def fI (p : Int → Bool) (e : Nat) : List Value → AH → Nat → Option (Bool × XA × St) := fun vs h n => match vs with
  | [.string t, v2, v3, v4, v5, .int .i64 a, v8] => some (tst (0 ≤ a ∧ a ≤ t.data.toList.length ∧ t.data.toList.length ≤ 16384 ∧ n = 149), .exit e, stT tsI [.string t, v2, v3, v4, v5, .int .i64 (a + (whN p (t.data.toList.drop a.toNat) : Nat)), v8] 149 h)
  | _ => none
noncomputable abbrev lkR {R : Type} : LoopK R := lkQ 8 tsR fR (lkQ 18 tsI (fI namB 5) (lkQ 26 tsI (fI digB 7) noLK))
noncomputable abbrev loR : LoopA := loQ 8 tsR fR (loQ 18 tsI (fI namB 5) (loQ 26 tsI (fI digB 7) noLO))
theorem lkR_ok {R : Type} : LKok (R := R) loR lkR := lkQ_ok (lkQ_ok (lkQ_ok noLK_ok))
noncomputable abbrev RI (j : Nat) (ts : List Nat) (vs : List Value) (h : AH) := bodyRunK Tryd.prog (glV lq) (qA noG [14, 15]) (qK noG [14, 15]) noLK (inn j) (stT ts vs 149 h) ts
abbrev letK {α : Type} (c : Int) (X Y : α) : α := bif decide (c ≥ 97) then (bif decide (c ≤ 122) then X else bif decide (c ≥ 65) then (bif decide (c ≤ 90) then X else bif c == 95 then X else Y) else bif c == 95 then X else Y) else bif decide (c ≥ 65) then (bif decide (c ≤ 90) then X else bif c == 95 then X else Y) else bif c == 95 then X else Y
abbrev digK {α : Type} (c : Int) (X Y : α) : α := bif decide (c ≥ 48) then (bif decide (c ≤ 57) then X else Y) else Y
theorem letK_eq {α : Type} (c : Int) (X Y : α) : letK c X Y = bif letB c then X else Y := by
  unfold letK letB
  cases decide (c ≥ 97) <;> cases decide (c ≤ 122) <;> cases decide (c ≥ 65) <;> cases decide (c ≤ 90) <;> cases c == 95 <;> rfl
theorem digK_eq {α : Type} (c : Int) (X Y : α) : digK c X Y = bif digB c then X else Y := by
  unfold digK digB
  cases decide (c ≥ 48) <;> cases decide (c ≤ 57) <;> rfl
noncomputable abbrev ixT {α : Type} (s : List UInt8) (n : Int) (x : Option α) : Option α := bif decide (0 ≤ n) then bif Nat.ble (Int.toNat n + 1) s.length then x else none else none
abbrev ltT {α : Type} (s : List UInt8) (n : Int) (x y : α) : α := bif decide (n < (s.length : Int)) then x else y
theorem tIR (s : List UInt8) (v2 v3 v4 : Value) (n : Int) (h : AH) : RI 0 tsR [st s, v2, v3, v4, iv n] h = ltT s n (ixT s n (bif byteAt s (Int.toNat n) != 10 then some (.normal, [st s, v2, v3, v4, iv (IntKind.wrap IntKind.i64 (n + 1))], h, 149) else some (.exit 2, [st s, v2, v3, v4, iv n], h, 149))) (some (.exit 2, [st s, v2, v3, v4, iv n], h, 149)) := by kernel_rfl
theorem tIL (s : List UInt8) (v2 v3 v4 v5 v8 : Value) (n : Int) (h : AH) : RI 1 tsI [st s, v2, v3, v4, v5, iv n, v8] h = ltT s n (ixT s n (letK (byteAt s (Int.toNat n)) (some (.normal, [st s, v2, v3, v4, v5, iv (IntKind.wrap IntKind.i64 (n + 1)), v8], h, 149)) (ixT s n (digK (byteAt s (Int.toNat n)) (some (.normal, [st s, v2, v3, v4, v5, iv (IntKind.wrap IntKind.i64 (n + 1)), v8], h, 149)) (some (.exit 5, [st s, v2, v3, v4, v5, iv n, v8], h, 149)))))) (some (.exit 5, [st s, v2, v3, v4, v5, iv n, v8], h, 149)) := by kernel_rfl
theorem tID (s : List UInt8) (v2 v3 v4 v5 v8 : Value) (n : Int) (h : AH) : RI 2 tsI [st s, v2, v3, v4, v5, iv n, v8] h = ltT s n (ixT s n (digK (byteAt s (Int.toNat n)) (some (.normal, [st s, v2, v3, v4, v5, iv (IntKind.wrap IntKind.i64 (n + 1)), v8], h, 149)) (some (.exit 7, [st s, v2, v3, v4, v5, iv n, v8], h, 149)))) (some (.exit 7, [st s, v2, v3, v4, v5, iv n, v8], h, 149)) := by kernel_rfl
theorem ltT_t {α : Type} {s : List UInt8} {a : Nat} (h : a < s.length) (x y : α) : ltT s (a : Int) x y = x := by unfold ltT; rw [decide_eq_true (by omega)]; rfl
theorem ltT_f {α : Type} {s : List UInt8} (x y : α) : ltT s (s.length : Nat) x y = y := by unfold ltT; rw [decide_eq_false (Int.lt_irrefl _)]; rfl
theorem ixT_t {α : Type} {s : List UInt8} {a : Nat} (h : a < s.length) (x : Option α) : ixT s (a : Int) x = x := by unfold ixT; rw [decide_eq_true (by omega), Int.toNat_natCast, ble_t (by omega)]; rfl
/-- A loop that goes over bytes of a kind. -/
theorem over_loop {j e : Nat} {ts : List Nat} {p : Int → Bool} {s : List UInt8} (hs : s.length ≤ 16384) {enc : Int → List Value} {h : AH}
    (ht : ∀ n : Nat, n ≤ s.length → RI j ts (enc n) h = if hn : n < s.length then (bif p ((s[n]).toNat : Int) then some (.normal, enc ((n + 1 : Nat) : Int), h, 149) else some (.exit e, enc n, h, 149)) else some (.exit e, enc n, h, 149)) (a : Nat) (ha : a ≤ s.length) :
    LoopTri Tryd.prog (glV lq) (hV lq) (inn j) (stT ts (enc a) 149 h) (.exit e) (stT ts (enc ((a + whN p (s.drop a) : Nat) : Int)) 149 h) := by
  have hl : LoopsOK Tryd.prog (glV lq) (hV lq) noLO (loopsOf (inn j)) := noLO_ok
  refine loop_plainO hmix (qA_ok noQ_ok [14, 15]) (qK_ok noG [14, 15]) noLK_ok hl ts (X := {n : Nat // n ≤ s.length}) (fun n => enc (n.1 : Int)) (fun n => s.length - n.1)
    (fun n => (.exit e, enc ((n.1 + whN p (s.drop n.1) : Nat) : Int))) (fun ⟨n, hn⟩ => ?_) ⟨a, ha⟩
  dsimp only
  have h1 := ht n hn
  by_cases hlt : n < s.length
  · rw [dif_pos hlt] at h1
    rw [drop_cons hlt, whN]
    cases hp : p ((s[n]).toNat : Int) with
    | true =>
      rw [hp] at h1
      refine ⟨_, _, h1, .inl ⟨rfl, ⟨n + 1, hlt⟩, rfl, by dsimp only; omega, ?_⟩⟩
      dsimp only
      rw [cond_true, show n + 1 + whN p (s.drop (n + 1)) = n + (whN p (s.drop (n + 1)) + 1) by omega]
    | false =>
      rw [hp] at h1
      exact ⟨_, _, h1, .inr ⟨by simp, rfl⟩⟩
  · rw [dif_neg hlt] at h1
    obtain rfl : n = s.length := by omega
    rw [List.drop_length]
    exact ⟨_, _, h1, .inr ⟨by simp, rfl⟩⟩
theorem inner10 : loopsOf (loopN Tryd.f10 0) = [inn 0, inn 1, inn 2] := by kernel_rfl
theorem reg10 : (isReg 8 (inn 0), isReg 8 (inn 1), isReg 8 (inn 2), isReg 18 (inn 0), isReg 18 (inn 1), isReg 18 (inn 2), isReg 26 (inn 0), isReg 26 (inn 1), isReg 26 (inn 2)) = (true, false, false, false, true, false, false, false, true) := by kernel_rfl
theorem fR_some {vs : List Value} {h : AH} {n : Nat} {x : XA} {σ : St} (hf : fR vs h n = some (true, x, σ)) : ∃ (s : List UInt8) (v2 v3 v4 : Value) (a : Nat), a ≤ s.length ∧ s.length ≤ 16384 ∧ n = 149 ∧ vs = [st s, v2, v3, v4, iv (a : Nat)] ∧ x = .exit 2 ∧ σ = stT tsR [st s, v2, v3, v4, iv ((a + whN nlB (s.drop a) : Nat) : Int)] 149 h := by
  unfold fR at hf
  split at hf
  · rename_i t v2 v3 v4 a
    obtain ⟨⟨s⟩⟩ := t
    simp only [Option.some.injEq, Prod.mk.injEq] at hf
    obtain ⟨ht, rfl, rfl⟩ := hf
    obtain ⟨h1, h2, h3, h4⟩ := of_tst ht
    obtain ⟨m, rfl⟩ : ∃ m : Nat, a = m := ⟨a.toNat, by omega⟩
    have h2' : (m : Int) ≤ (s.length : Int) := h2
    refine ⟨s, v2, v3, v4, m, by omega, h3, h4, rfl, rfl, ?_⟩
    rw [Int.toNat_natCast, Int.natCast_add]
  · cases hf
theorem fI_some {p : Int → Bool} {e : Nat} {vs : List Value} {h : AH} {n : Nat} {x : XA} {σ : St} (hf : fI p e vs h n = some (true, x, σ)) : ∃ (s : List UInt8) (v2 v3 v4 v5 v8 : Value) (a : Nat), a ≤ s.length ∧ s.length ≤ 16384 ∧ n = 149 ∧ vs = [st s, v2, v3, v4, v5, iv (a : Nat), v8] ∧ x = .exit e ∧ σ = stT tsI [st s, v2, v3, v4, v5, iv ((a + whN p (s.drop a) : Nat) : Int), v8] 149 h := by
  unfold fI at hf
  split at hf
  · rename_i t v2 v3 v4 v5 a v8
    obtain ⟨⟨s⟩⟩ := t
    simp only [Option.some.injEq, Prod.mk.injEq] at hf
    obtain ⟨ht, rfl, rfl⟩ := hf
    obtain ⟨h1, h2, h3, h4⟩ := of_tst ht
    obtain ⟨m, rfl⟩ : ∃ m : Nat, a = m := ⟨a.toNat, by omega⟩
    have h2' : (m : Int) ≤ (s.length : Int) := h2
    refine ⟨s, v2, v3, v4, v5, v8, m, by omega, h3, h4, rfl, rfl, ?_⟩
    rw [Int.toNat_natCast, Int.natCast_add]
  · cases hf
theorem loR_ok : LoopsOK Tryd.prog (glV lq) (hV lq) loR (loopsOf (loopN Tryd.f10 0)) := by
  have rg := reg10
  simp only [Prod.mk.injEq] at rg
  obtain ⟨r0, r1, r2, r3, r4, r5, r6, r7, r8⟩ := rg
  refine loQ_ok (fun c hc hr σ vs x σ' hd hp hf => ?_) (loQ_ok (fun c hc hr σ vs x σ' hd hp hf => ?_) (loQ_ok (fun c hc hr σ vs x σ' hd hp hf => ?_) noLO_ok))
  · obtain ⟨s, v2, v3, v4, a, ha, hs, hn, rfl, rfl, rfl⟩ := fR_some hf
    have hc0 : c = inn 0 := by
      rw [inner10] at hc
      simp only [List.mem_cons, List.not_mem_nil, or_false] at hc
      rcases hc with rfl | rfl | rfl
      · rfl
      · rw [r1] at hr; cases hr
      · rw [r2] at hr; cases hr
    subst hc0
    refine (over_loop hs (p := nlB) (enc := fun n => [st s, v2, v3, v4, iv n]) (fun n hn => ?_) a ha).enter (covers_T hn (picks_mkT hp) rfl hd.symm)
    rw [tIR]
    by_cases hlt : n < s.length
    · rw [dif_pos hlt, ltT_t hlt, ixT_t hlt, byte_at hlt, wrap1 (by omega)]; rfl
    · rw [dif_neg hlt]
      obtain rfl : n = s.length := by omega
      rw [ltT_f]
  · obtain ⟨s, v2, v3, v4, v5, v8, a, ha, hs, hn, rfl, rfl, rfl⟩ := fI_some hf
    have hc0 : c = inn 1 := by
      rw [inner10] at hc
      simp only [List.mem_cons, List.not_mem_nil, or_false] at hc
      rcases hc with rfl | rfl | rfl
      · rw [r3] at hr; cases hr
      · rfl
      · rw [r5] at hr; cases hr
    subst hc0
    refine (over_loop hs (p := namB) (enc := fun n => [st s, v2, v3, v4, v5, iv n, v8]) (fun n hn => ?_) a ha).enter (covers_T hn (picks_mkT hp) rfl hd.symm)
    rw [tIL]
    by_cases hlt : n < s.length
    · rw [dif_pos hlt, ltT_t hlt, ixT_t hlt, ixT_t hlt, byte_at hlt, wrap1 (by omega), letK_eq, digK_eq, namB]
      cases letB _ <;> rfl
    · rw [dif_neg hlt]
      obtain rfl : n = s.length := by omega
      rw [ltT_f]
  · obtain ⟨s, v2, v3, v4, v5, v8, a, ha, hs, hn, rfl, rfl, rfl⟩ := fI_some hf
    have hc0 : c = inn 2 := by
      rw [inner10] at hc
      simp only [List.mem_cons, List.not_mem_nil, or_false] at hc
      rcases hc with rfl | rfl | rfl
      · rw [r6] at hr; cases hr
      · rw [r7] at hr; cases hr
      · rfl
    subst hc0
    refine (over_loop hs (p := digB) (enc := fun n => [st s, v2, v3, v4, v5, iv n, v8]) (fun n hn => ?_) a ha).enter (covers_T hn (picks_mkT hp) rfl hd.symm)
    rw [tID]
    by_cases hlt : n < s.length
    · rw [dif_pos hlt, ltT_t hlt, ixT_t hlt, byte_at hlt, wrap1 (by omega), digK_eq]
    · rw [dif_neg hlt]
      obtain rfl : n = s.length := by omega
      rw [ltT_f]
noncomputable abbrev slT (s : List UInt8) (n to : Int) (x : RR) : RR := bif decide (0 ≤ n) then bif decide (0 ≤ to) then bif Nat.ble (Int.toNat n) (Int.toNat to) then bif Nat.ble (Int.toNat to) s.length then x else none else none else none else none
abbrev tx (s : List UInt8) (n to : Int) : List UInt8 := List.take (Int.toNat to - Int.toNat n) (List.drop (Int.toNat n) s)
noncomputable abbrev inT (s : List UInt8) (n : Int) (x : RR) : RR := bif tst (0 ≤ n ∧ n ≤ (s.length : Int) ∧ s.length ≤ 16384 ∧ 149 = 149) then x else none
abbrev nW (p : Int → Bool) (s : List UInt8) (n : Int) : Int := n + (whN p (List.drop (Int.toNat n) s) : Nat)
abbrev nS (s : List UInt8) (n : Int) : Int := IntKind.wrap IntKind.i64 (n + ((sgF (sl s n) sgns).2.length : Nat))
abbrev Go3 := Int → List UInt8 → Int → RR
noncomputable abbrev wordT (s : List UInt8) (n : Int) (bad : RR) (go : Go3) : RR :=
  bif tE then bif letB (byteAt s (Int.toNat n)) then inT s n (slT s n (nW namB s n) (bif tE then bif keptB (tx s n (nW namB s n)) then (bif decide (IntKind.wrap IntKind.i64 (nW namB s n - n) > 64) then bad else slT s n (nW namB s n) (go 2 (tx s n (nW namB s n)) (nW namB s n))) else (bif decide (IntKind.wrap IntKind.i64 (nW namB s n - n) > 64) then bad else slT s n (nW namB s n) (go 1 (tx s n (nW namB s n)) (nW namB s n))) else none))
  else bif tE then bif digB (byteAt s (Int.toNat n)) then inT s n (slT s n (nW digB s n) (bif tE then bif tst (tx s n (nW digB s n) ≠ [] ∧ allDig (tx s n (nW digB s n))) then bif numB (tx s n (nW digB s n)) then slT s n (nW digB s n) (go 3 (tx s n (nW digB s n)) (nW digB s n)) else bad else none else none))
  else bif decide (0 ≤ n) then bif Nat.ble (Int.toNat n) s.length then bif Nat.ble s.length s.length then bif tE then bif tst (sl s n ≠ []) then bif (sgF (sl s n) sgns).2 == [] then bad else slT s n (nS s n) (go 4 (tx s n (nS s n)) (nS s n)) else none else none else none else none else none
  else none else none
noncomputable abbrev oT (s : List UInt8) (n : Int) (blank rem bad done : RR) (go : Go3) : RR :=
  ltT s n (ixT s n (bif byteAt s (Int.toNat n) == 32 then blank else bif byteAt s (Int.toNat n) == 9 then blank else bif byteAt s (Int.toNat n) == 10 then blank else bif byteAt s (Int.toNat n) == 13 then blank else
    bif byteAt s (Int.toNat n) == 47 then (ltT s (IntKind.wrap IntKind.i64 (n + 1)) (ixT s (IntKind.wrap IntKind.i64 (n + 1)) (bif byteAt s (Int.toNat (IntKind.wrap IntKind.i64 (n + 1))) == 47 then inT s n rem else wordT s n bad go)) (wordT s n bad go)) else wordT s n bad go)) done
noncomputable abbrev RO (ids : List Nat) (L : Value) (s : List UInt8) (n : Int) (h : AH) := RQ Tryd.prog lq (qA F5 []) (qK F5 []) lkR Tryd.f10 0 tsR ids [st s, nilV, iv 0, L, iv n] h
abbrev own0 : Value := .slice (some ⟨1, 0, none⟩) 0 0
abbrev newV (m : Nat) : Value := .slice (some ⟨4, 0, none⟩) m 1
abbrev lf (s : List UInt8) (x : XA) (r : Int) (L : Value) (a : Int) (bs : List Blk) : RR := some (x, [st s, nilV, iv r, L, iv a], bs, 149)
set_option maxRecDepth 100000 in
theorem oA4 (s : List UInt8) (n : Int) : RO [4] own0 s n (mkHV lq [.row false 3 []]) = oT s n none none none none (fun k t to => lf s .normal 0 (newV 1) to [.row false 3 [iv k, st t, iv n]]) := by kernel_rfl
set_option maxRecDepth 100000 in
theorem oA1 (s : List UInt8) (n : Int) : RO [1] own0 s n (mkHV lq [.row false 3 []]) = oT s n (lf s .normal 0 own0 (IntKind.wrap IntKind.i64 (n + 1)) [.row false 3 []]) (lf s .normal 0 own0 (nW nlB s n) [.row false 3 []]) (lf s .ret n own0 n [.row false 3 []]) (lf s (.exit 0) 0 own0 n [.row false 3 []]) (fun k t to => lf s .normal 0 (newV 1) to [.row false 3 []]) := by kernel_rfl
set_option maxRecDepth 100000 in
theorem oB4 (s : List UInt8) (m : Nat) (n : Int) (cs : List Value) : RO [4] (ownV m) s n (mkHV lq [.row false 3 cs]) = oT s n none none none none (fun k t to => cRow m cs (lf s .normal 0 (newV (m + 1)) to [.row false 3 (List.take (m * 3) cs ++ [iv k, st t, iv n])])) := by kernel_rfl
set_option maxRecDepth 100000 in
theorem oB1 (s : List UInt8) (m : Nat) (n : Int) (cs : List Value) : RO [1] (ownV m) s n (mkHV lq [.row false 3 cs]) = oT s n (lf s .normal 0 (ownV m) (IntKind.wrap IntKind.i64 (n + 1)) [.row false 3 cs]) (lf s .normal 0 (ownV m) (nW nlB s n) [.row false 3 cs]) (lf s .ret n (ownV m) n [.row false 3 cs]) (lf s (.exit 0) 0 (ownV m) n [.row false 3 cs]) (fun k t to => cRow m cs none) := by kernel_rfl
theorem slT_t {s : List UInt8} {a b : Nat} (h1 : a ≤ b) (h2 : b ≤ s.length) (x : RR) : slT s (a : Int) (b : Int) x = x := by
  unfold slT
  rw [decide_eq_true (show (0 : Int) ≤ a by omega), decide_eq_true (show (0 : Int) ≤ b by omega), Int.toNat_natCast, Int.toNat_natCast, ble_t h1, ble_t h2]; rfl
theorem inT_t {s : List UInt8} {a : Nat} (hs : s.length ≤ 16384) (h : a ≤ s.length) (x : RR) : inT s (a : Int) x = x := by
  unfold inT
  rw [tst_of ⟨by omega, by omega, hs, rfl⟩]; rfl
theorem nW_eq {p : Int → Bool} {s : List UInt8} {a : Nat} : nW p s (a : Int) = ((a + whN p (s.drop a) : Nat) : Int) := by unfold nW; rw [Int.toNat_natCast]; omega
theorem tx_eq {s : List UInt8} {a w : Nat} : tx s (a : Int) ((a + w : Nat) : Int) = (s.drop a).take w := by
  unfold tx; rw [Int.toNat_natCast, Int.toNat_natCast, show a + w - a = w by omega]
theorem sg_nil {s : List UInt8} : (sgF s sgns).1 = 0 ∧ (sgF s sgns).2 = [] ∨ (sgF s sgns).1 = 4 ∧ (sgF s sgns).2 ≠ [] ∧ (sgF s sgns).2.length ≤ s.length ∧ s.take (sgF s sgns).2.length = (sgF s sgns).2 := by
  have key : ∀ l : List (List UInt8), (∀ x ∈ l, x ≠ []) → (sgF s l).1 = 0 ∧ (sgF s l).2 = [] ∨ (sgF s l).1 = 4 ∧ (sgF s l).2 ≠ [] ∧ (sgF s l).2.length ≤ s.length ∧ s.take (sgF s l).2.length = (sgF s l).2 := by
    intro l
    induction l with
    | nil => intro _; exact .inl ⟨rfl, rfl⟩
    | cons x r ih =>
      intro h
      unfold sgF
      cases hx : x.isPrefixOf s with
      | true => exact .inr ⟨rfl, h x (by simp), isPre_len hx, isPre_take hx⟩
      | false => exact ih fun y hy => h y (by simp [hy])
  exact key sgns sgns_ne
theorem wordT_eq {s : List UInt8} {a : Nat} (hs : s.length ≤ 16384) (h : a < s.length) (bad : RR) (go : Go3) : wordT s (a : Int) bad go = if (wAt s a).1 = 0 then bad else go ((wAt s a).1 : Nat) (wAt s a).2 ((a + (wAt s a).2.length : Nat) : Int) := by
  have hd := drop_cons h
  have hwle (p : Int → Bool) : a + whN p (s.drop a) ≤ s.length := by have := whN_le p (s.drop a); rw [List.length_drop] at this; omega
  have hlen (p : Int → Bool) : ((s.drop a).take (whN p (s.drop a))).length = whN p (s.drop a) := by rw [List.length_take]; exact Nat.min_eq_left (whN_le p _)
  have hne : s.drop a ≠ [] := by rw [hd]; exact List.cons_ne_nil _ _
  have hw : wAt s a = wordF ((s[a]'h) :: s.drop (a + 1)) := by show wordF (s.drop a) = _; rw [hd]
  unfold wordT
  rw [tE_t, byte_at h]
  simp only [cond_true]
  cases hl : letB ((s[a]).toNat : Int) with
  | true =>
    have e : wAt s a = if 64 < whN namB (s.drop a) then (0, []) else (bif keptB ((s.drop a).take (whN namB (s.drop a))) then 2 else 1, (s.drop a).take (whN namB (s.drop a))) := by
      rw [hw, wordF_cons, hl, cond_true, ← hd]
    rw [nW_eq, cond_true, inT_t hs (Nat.le_of_lt h), slT_t (by omega) (hwle namB), slT_t (by omega) (hwle namB), slT_t (by omega) (hwle namB), tx_eq, show IntKind.wrap IntKind.i64 (((a + whN namB (s.drop a) : Nat) : Int) - (a : Int)) = (whN namB (s.drop a) : Nat) by rw [i64w]; have := hwle namB; omega]
    by_cases h64 : 64 < whN namB (s.drop a)
    · rw [if_pos h64] at e
      rw [e, if_pos rfl, decide_eq_true (by omega)]
      cases keptB _ <;> rfl
    · rw [if_neg h64] at e
      rw [e, decide_eq_false (by omega), hlen]
      cases keptB ((s.drop a).take (whN namB (s.drop a))) <;> rfl
  | false =>
    rw [cond_false]
    cases hg : digB ((s[a]).toNat : Int) with
    | true =>
      have e : wAt s a = bif numB ((s.drop a).take (whN digB (s.drop a))) then (3, (s.drop a).take (whN digB (s.drop a))) else (0, []) := by
        rw [hw, wordF_cons, hl, hg, cond_false, cond_true, ← hd]
      have hn : (s.drop a).take (whN digB (s.drop a)) ≠ [] := by
        intro e0
        have := congrArg List.length e0
        rw [hlen, hd] at this
        unfold whN at this
        rw [hg] at this
        simp at this
      rw [nW_eq, cond_true, inT_t hs (Nat.le_of_lt h), slT_t (by omega) (hwle digB), slT_t (by omega) (hwle digB), tx_eq, tst_of ⟨hn, whN_all digB _⟩, cond_true]
      cases hb : numB ((s.drop a).take (whN digB (s.drop a))) with
      | true =>
        rw [hb, cond_true] at e
        rw [e]
        show go 3 _ _ = if (3 : Nat) = 0 then bad else go ((3 : Nat) : Int) _ ((a + ((s.drop a).take (whN digB (s.drop a))).length : Nat) : Int)
        rw [hlen, if_neg (by decide)]; rfl
      | false =>
        rw [hb] at e
        rw [e]; rfl
    | false =>
      have e : wAt s a = sgF (s.drop a) sgns := by
        rw [hw, wordF_cons, hl, hg, cond_false, cond_false, ← hd]
      rw [cond_false, decide_eq_true (show (0 : Int) ≤ a by omega), Int.toNat_natCast, ble_t (Nat.le_of_lt h), ble_t (Nat.le_refl _), sl_nat, tst_of hne, e]
      simp only [cond_true]
      rcases sg_nil (s := s.drop a) with ⟨h1, h2⟩ | ⟨h1, h2, h3, h4⟩
      · rw [h1, h2, if_pos rfl]; rfl
      · rw [List.length_drop] at h3
        have e2 : nS s (a : Int) = ((a + (sgF (s.drop a) sgns).2.length : Nat) : Int) := by unfold nS; rw [sl_nat, i64w]; omega
        rw [beq_false_of_ne h2, h1, if_neg (by decide), e2, slT_t (by omega) (by omega), tx_eq, h4]; rfl
theorem blank4 {α : Type} (c : Int) (x y : α) : (bif c == 32 then x else bif c == 9 then x else bif c == 10 then x else bif c == 13 then x else y) = bif blankB c then x else y := bif4 _ _ _ _ x y
theorem oT_done {s : List UInt8} (bl' rem bad done : RR) (go : Go3) : oT s (s.length : Nat) bl' rem bad done go = done := by unfold oT; rw [ltT_f]
theorem oT_eq {s : List UInt8} {a : Nat} (hs : s.length ≤ 16384) (h : a < s.length) (bl' rem bad done : RR) (go : Go3) : oT s (a : Int) bl' rem bad done go = bif blankB ((s[a]).toNat : Int) then bl' else bif [47, 47].isPrefixOf (s.drop a) then rem else if (wAt s a).1 = 0 then bad else go ((wAt s a).1 : Nat) (wAt s a).2 ((a + (wAt s a).2.length : Nat) : Int) := by
  unfold oT
  rw [ltT_t h, ixT_t h, blank4, byte_at h, wrap1 (by omega), wordT_eq hs h]
  congr 1
  by_cases hc : s[a] = 47
  · rw [hc]
    have e1 : (((47 : UInt8).toNat : Int) == 47) = true := rfl
    rw [e1, cond_true]
    by_cases h1 : a + 1 < s.length
    · rw [ltT_t h1, ixT_t h1, byte_at h1, inT_t hs (Nat.le_of_lt h)]
      have hp : [47, 47].isPrefixOf (s.drop a) = ((s[a + 1]).toNat == (47 : Nat)) := by
        rw [drop_cons h, drop_cons h1, hc, Bool.eq_iff_iff]
        simp only [List.isPrefixOf, beq_self_eq_true, Bool.true_and, Bool.and_true, beq_iff_eq]
        constructor
        · intro e; rw [← e]; rfl
        · intro e; exact (UInt8.toNat_inj.1 (by rw [e]; rfl))
      have e2 : (((s[a + 1]).toNat : Int) == 47) = ((s[a + 1]).toNat == (47 : Nat)) := by
        rw [Bool.eq_iff_iff]; simp only [beq_iff_eq]; omega
      rw [hp, e2]
    · have e : a + 1 = s.length := by omega
      rw [e, ltT_f]
      have hp : [47, 47].isPrefixOf (s.drop a) = false := by
        rw [← Bool.not_eq_true]; intro g
        have := isPre_len g
        rw [List.length_drop] at this
        simp at this; omega
      rw [hp]; rfl
  · have e1 : (((s[a]).toNat : Int) == 47) = false := by
      rw [beq_eq_false_iff_ne]; intro e; exact hc (UInt8.toNat_inj.1 (Int.ofNat.inj e))
    have hp : [47, 47].isPrefixOf (s.drop a) = false := by
      rw [drop_cons h, ← Bool.not_eq_true]; intro g
      rw [List.isPrefixOf] at g
      rw [Bool.and_eq_true, beq_iff_eq] at g
      exact hc g.1.symm
    rw [e1, hp]; rfl
/-- The outer loop's state. -/
def stR (s : List UInt8) (ws : List Wd) (a : Nat) : St := match ws with
  | [] => stT tsR [st s, nilV, iv 0, own0, iv (a : Nat)] 149 (mkHV lq [.row false 3 []])
  | w :: r => stT tsR [st s, nilV, iv 0, ownV (w :: r).length, iv (a : Nat)] 149 (mkHV lq [.row false 3 (wCs (w :: r))])
def outR (s : List UInt8) : List Wd × Option Nat → XA × St
  | (ws, none) => (.exit 0, stR s ws s.length)
  | (_, some n) => (.ret, stT [0, 2, 3] [st s, nilV, iv (n : Nat)] 149 (hV lq))
noncomputable abbrev CBr (σ : St) := codeB Tryd.prog (glV lq) (regF Tryd.prog (glV lq)) (qA F5 []) loR (loopN Tryd.f10 0) σ
theorem RO_some {ids : List Nat} {L : Value} {s : List UInt8} {n : Int} {h : AH} {y : XA} {us : List Value} {bs : List Blk} {k : Nat} (hr : RO ids L s n h = some (y, us, bs, k)) :
    ∃ σ1, CBr (stT tsR [st s, nilV, iv 0, L, iv n] 149 h) = some (y, σ1) ∧ picks tsR σ1.T = some us ∧ picksH ids σ1.h = some bs ∧ σ1.n = k ∧ σ1.ds = [] := finHG_some (qK_ok F5 []) lkR_ok hr
theorem covR_row {s : List UInt8} {ws : List Wd} (hne : ws ≠ []) {a m k : Nat} {σ1 : St} (hk : 1 ≤ k) (hm : m = ws.length) (hp : picks tsR σ1.T = some [st s, nilV, iv 0, .slice (some ⟨k, 0, none⟩) m 1, iv (a : Nat)]) (hb : picksH [k] σ1.h = some [.row false 3 (wCs ws)]) (hn : σ1.n = 149) (hd : σ1.ds = []) : Covers (glV lq) (hV lq) (stR s ws a) σ1 := by
  obtain ⟨w, r, rfl⟩ := List.exists_cons_of_ne_nil hne
  subst hm
  refine covers_HV lq_g (ids := [k]) (dl := [0]) hn hd hp hb rfl ?_ ?_ (by simp) (fun i hi => by rw [List.mem_singleton.1 hi]; exact hk) ?_
  · refine .cons (.plain _ rfl) (.cons (.plain _ rfl) (.cons (.plain _ rfl) (.cons ?_ (.cons (.plain _ rfl) .nil))))
    exact .slc 1 0 0 _ 1 (show 1 < 1 + 1 by decide) rfl
  · intro j b b1 h0 h1
    match j with
    | 0 => cases h0; cases h1; exact ⟨rfl, rfl, Nat.zero_le _, RenL.plain (wCs_plain _)⟩
    | j + 1 => cases h0
  · intro b hb
    rw [List.mem_singleton.1 hb]; rfl
theorem covR_nil {s : List UInt8} {a : Nat} {σ1 : St} (hp : picks tsR σ1.T = some [st s, nilV, iv 0, own0, iv (a : Nat)]) (hb : picksH [1] σ1.h = some [.row false 3 []]) (hn : σ1.n = 149) (hd : σ1.ds = []) : Covers (glV lq) (hV lq) (stR s [] a) σ1 := by
  refine covers_HV lq_g (ids := [1]) (dl := [0]) hn hd hp hb rfl ?_ ?_ (by simp) (fun i hi => by rw [List.mem_singleton.1 hi]; decide) ?_
  · refine .cons (.plain _ rfl) (.cons (.plain _ rfl) (.cons (.plain _ rfl) (.cons ?_ (.cons (.plain _ rfl) .nil))))
    exact .slc 1 0 0 _ 0 (show 1 < 1 + 1 by decide) rfl
  · intro j b b1 h0 h1
    match j with
    | 0 => cases h0; cases h1; exact ⟨rfl, rfl, Nat.zero_le _, RenL.plain (fun v hv => by cases hv)⟩
    | j + 1 => cases h0
  · intro b hb
    rw [List.mem_singleton.1 hb]; rfl
theorem covR_ret {s : List UInt8} {n : Nat} {d e : Value} {σ1 : St} (h : picks tsR σ1.T = some [st s, nilV, iv (n : Nat), d, e]) (hn : σ1.n = 149) (hd : σ1.ds = []) : Covers (glV lq) (hV lq) (stT [0, 2, 3] [st s, nilV, iv (n : Nat)] 149 (hV lq)) σ1 :=
  covers_HV (bs1 := []) (bs2 := []) lq_g (ids := []) (dl := []) hn hd (picks_take tsR σ1.T _ 3 h) rfl rfl (RenL.plain (by simp [plain1])) (fun i b b1 h => by simp at h) (by simp) (fun i hi => by cases hi) (fun b hb => by cases hb)
/-- What is still ahead, blanks and all. -/
def cutAt (s : List UInt8) (a : Nat) (ws : List Wd) : List Wd × Option Nat := cut s (a + bl false (s.drop a)) ws
theorem tree_nil {s : List UInt8} {a : Nat} (hs : s.length ≤ 16384) (hlt : a < s.length) : RO [1] own0 s (a : Int) (mkHV lq [.row false 3 []]) =
    bif blankB ((s[a]).toNat : Int) then lf s .normal 0 own0 ((a + 1 : Nat) : Int) [.row false 3 []] else bif [47, 47].isPrefixOf (s.drop a) then lf s .normal 0 own0 ((a + whN nlB (s.drop a) : Nat) : Int) [.row false 3 []] else if (wAt s a).1 = 0 then lf s .ret (a : Int) own0 (a : Int) [.row false 3 []] else lf s .normal 0 (newV 1) ((a + (wAt s a).2.length : Nat) : Int) [.row false 3 []] := by
  rw [oA1, oT_eq hs hlt, wrap1 (by omega), nW_eq]
theorem tree_cons {s : List UInt8} {a m : Nat} {cs : List Value} (hs : s.length ≤ 16384) (hlt : a < s.length) : RO [1] (ownV m) s (a : Int) (mkHV lq [.row false 3 cs]) =
    bif blankB ((s[a]).toNat : Int) then lf s .normal 0 (ownV m) ((a + 1 : Nat) : Int) [.row false 3 cs] else bif [47, 47].isPrefixOf (s.drop a) then lf s .normal 0 (ownV m) ((a + whN nlB (s.drop a) : Nat) : Int) [.row false 3 cs] else if (wAt s a).1 = 0 then lf s .ret (a : Int) (ownV m) (a : Int) [.row false 3 cs] else cRow m cs none := by
  rw [oB1, oT_eq hs hlt, wrap1 (by omega), nW_eq]
theorem stay {s : List UInt8} {a b : Nat} : ∀ (ws : List Wd), (RO [1] own0 s (a : Int) (mkHV lq [.row false 3 []]) = lf s .normal 0 own0 (b : Int) [.row false 3 []]) → (∀ (m : Nat) (cs : List Value), RO [1] (ownV m) s (a : Int) (mkHV lq [.row false 3 cs]) = lf s .normal 0 (ownV m) (b : Int) [.row false 3 cs]) →
    ∃ σ1, CBr (stR s ws a) = some (.normal, σ1) ∧ Covers (glV lq) (hV lq) (stR s ws b) σ1
  | [], h, _ => by
    obtain ⟨σ1, g1, g2, g3, g4, g5⟩ := RO_some h
    exact ⟨σ1, g1, covR_nil g2 g3 g4 g5⟩
  | w :: r, _, h => by
    obtain ⟨σ1, g1, g2, g3, g4, g5⟩ := RO_some (h (w :: r).length (wCs (w :: r)))
    exact ⟨σ1, g1, covR_row (by simp) (k := 1) (by decide) rfl g2 g3 g4 g5⟩
theorem rd_bad {s : List UInt8} {a : Nat} (hs : s.length ≤ 16384) (hlt : a < s.length) (hb : blankB ((s[a]).toNat : Int) = false) (hp : [47, 47].isPrefixOf (s.drop a) = false) (h0 : (wAt s a).1 = 0) : ∀ (ws : List Wd), ∃ σ1, CBr (stR s ws a) = some (.ret, σ1) ∧ Covers (glV lq) (hV lq) (stT [0, 2, 3] [st s, nilV, iv (a : Nat)] 149 (hV lq)) σ1
  | [] => by
    have h := tree_nil hs hlt
    rw [hb, hp, cond_false, cond_false, if_pos h0] at h
    obtain ⟨σ1, g1, g2, g3, g4, g5⟩ := RO_some h
    exact ⟨σ1, g1, covR_ret g2 g4 g5⟩
  | w :: r => by
    have h := tree_cons (m := (w :: r).length) (cs := wCs (w :: r)) hs hlt
    rw [hb, hp, cond_false, cond_false, if_pos h0] at h
    obtain ⟨σ1, g1, g2, g3, g4, g5⟩ := RO_some h
    exact ⟨σ1, g1, covR_ret g2 g4 g5⟩
theorem rd_go {s : List UInt8} {a : Nat} (hs : s.length ≤ 16384) (hlt : a < s.length) (hb : blankB ((s[a]).toNat : Int) = false) (hp : [47, 47].isPrefixOf (s.drop a) = false) (h0 : ¬ (wAt s a).1 = 0) : ∀ (ws : List Wd), ws.length ≤ 16384 → ∃ σ1, CBr (stR s ws a) = some (.normal, σ1) ∧ Covers (glV lq) (hV lq) (stR s (ws ++ [((wAt s a).1, (wAt s a).2, a)]) (a + (wAt s a).2.length)) σ1
  | [], _ => by
    have h := oA4 s (a : Nat)
    rw [oT_eq hs hlt, hb, hp, cond_false, cond_false, if_neg h0] at h
    obtain ⟨σ1, g1, g2, g3, g4, g5⟩ := RO_some h
    exact ⟨σ1, g1, covR_row (by simp) (k := 4) (by decide) rfl g2 g3 g4 g5⟩
  | w :: r, hl => by
    have h := oB4 s (w :: r).length (a : Nat) (wCs (w :: r))
    rw [oT_eq hs hlt, hb, hp, cond_false, cond_false, if_neg h0, cRow_go hl, List.take_of_length_le (by rw [wCs_len]; exact Nat.le_refl _)] at h
    obtain ⟨σ1, g1, g2, g3, g4, g5⟩ := RO_some h
    refine ⟨σ1, g1, covR_row (by simp) (k := 4) (by decide) (m := (w :: r).length + 1) (by simp) g2 ?_ g4 g5⟩
    rw [wCs_app]; exact g3
theorem rd_done {s : List UInt8} : ∀ (ws : List Wd), ∃ σ1, CBr (stR s ws s.length) = some (.exit 0, σ1) ∧ Covers (glV lq) (hV lq) (stR s ws s.length) σ1
  | [] => by
    have h := oA1 s (s.length : Nat)
    rw [oT_done] at h
    obtain ⟨σ1, g1, g2, g3, g4, g5⟩ := RO_some h
    exact ⟨σ1, g1, covR_nil g2 g3 g4 g5⟩
  | w :: r => by
    have h := oB1 s (w :: r).length (s.length : Nat) (wCs (w :: r))
    rw [oT_done] at h
    obtain ⟨σ1, g1, g2, g3, g4, g5⟩ := RO_some h
    exact ⟨σ1, g1, covR_row (by simp) (k := 1) (by decide) rfl g2 g3 g4 g5⟩
theorem cutr_loop {s : List UInt8} (hs : s.length ≤ 16384) : LoopTri Tryd.prog (glV lq) (hV lq) (loopN Tryd.f10 0) (stR s [] 0) (outR s (cutAt s 0 [])).1 (outR s (cutAt s 0 [])).2 := by
  refine loop_rule (P := Tryd.prog) (X := {p : Nat × List Wd // p.1 ≤ s.length ∧ p.2.length ≤ p.1}) (regF_ok hmix) (qA_ok F5_ok []) loR_ok (c := loopN Tryd.f10 0) (hE := hV lq) (fun p => stR s p.1.2 p.1.1) (fun p => s.length - p.1.1) (fun p => outR s (cutAt s p.1.1 p.1.2)) ?_ ⟨(0, []), Nat.zero_le _, Nat.zero_le _⟩
  rintro ⟨⟨a, ws⟩, ha, hw⟩
  dsimp only at ha hw ⊢
  by_cases hlt : a < s.length
  · have hd := drop_cons hlt
    cases hb : blankB ((s[a]).toNat : Int) with
    | true =>
      obtain ⟨σ1, g1, g2⟩ := stay (b := a + 1) ws ((tree_nil hs hlt).trans (by rw [hb, cond_true])) (fun m cs => (tree_cons hs hlt).trans (by rw [hb, cond_true]))
      refine ⟨_, σ1, g1, .inl ⟨rfl, ⟨(a + 1, ws), hlt, by dsimp only; omega⟩, by dsimp only; omega, ?_, g2⟩⟩
      dsimp only [cutAt]
      have e : bl false (s.drop a) = bl false (s.drop (a + 1)) + 1 := by rw [hd]; conv => lhs; unfold bl; rw [hb, cond_true]
      rw [e, show a + (bl false (s.drop (a + 1)) + 1) = a + 1 + bl false (s.drop (a + 1)) by omega]
    | false =>
      cases hp : [47, 47].isPrefixOf (s.drop a) with
      | true =>
        have hwl := whN_le nlB (s.drop a)
        rw [List.length_drop] at hwl
        have hpos : 0 < whN nlB (s.drop a) := by
          obtain ⟨r, hr⟩ := List.isPrefixOf_iff_prefix.1 hp
          rw [← hr]
          show 0 < whN nlB (47 :: 47 :: r)
          unfold whN
          rw [show nlB ((47 : UInt8).toNat : Int) = true by decide]; exact Nat.succ_pos _
        obtain ⟨σ1, g1, g2⟩ := stay (b := a + whN nlB (s.drop a)) ws ((tree_nil hs hlt).trans (by rw [hb, hp, cond_false, cond_true])) (fun m cs => (tree_cons hs hlt).trans (by rw [hb, hp, cond_false, cond_true]))
        refine ⟨_, σ1, g1, .inl ⟨rfl, ⟨(a + whN nlB (s.drop a), ws), by dsimp only; omega, by dsimp only; omega⟩, by dsimp only; omega, ?_, g2⟩⟩
        dsimp only [cutAt]
        rw [bl_rem hp, bl_wh, List.drop_drop, show a + whN nlB (s.drop a) + bl false (s.drop (a + whN nlB (s.drop a))) = a + (whN nlB (s.drop a) + bl false (s.drop (a + whN nlB (s.drop a)))) by omega]
      | false =>
        have e0 : bl false (s.drop a) = 0 := by rw [hd] at hp ⊢; conv => lhs; unfold bl; rw [hb, cond_false, hp, cond_false]
        have ec : cutAt s a ws = cut s a ws := by unfold cutAt; rw [e0, Nat.add_zero]
        rw [ec]
        by_cases h0 : (wAt s a).1 = 0
        · rw [cut_bad hlt h0]
          obtain ⟨σ1, g1, g2⟩ := rd_bad hs hlt hb hp h0 ws
          exact ⟨.ret, σ1, g1, .inr ⟨by simp, rfl, g2⟩⟩
        · have k3 : 0 < (wAt s a).2.length := (wordF_ok h0).1
          have k2 := (nxt_le ha h0).1
          obtain ⟨σ1, g1, g2⟩ := rd_go hs hlt hb hp h0 ws (by omega)
          refine ⟨.normal, σ1, g1, .inl ⟨rfl, ⟨(a + (wAt s a).2.length, ws ++ [((wAt s a).1, (wAt s a).2, a)]), k2, by simp only [List.length_append, List.length_singleton]; omega⟩, by dsimp only; omega, ?_, g2⟩⟩
          rw [cut_step hlt h0]; rfl
  · obtain rfl : a = s.length := by omega
    have e0 : cutAt s s.length ws = (ws, none) := by unfold cutAt; exact cut_end (by omega) ws
    rw [e0]
    obtain ⟨σ1, g1, g2⟩ := rd_done (s := s) ws
    exact ⟨.exit 0, σ1, g1, .inr ⟨by simp, rfl, g2⟩⟩
theorem cutAt0 (s : List UInt8) : cutAt s 0 [] = cutAll s := by unfold cutAt cutAll; rw [List.drop_zero, Nat.zero_add]
def rcutV (s : List UInt8) : List Wd × Option Nat → Value
  | (ws, none) => .tuple ⟨[okV (endW s ws), iv (-1)]⟩
  | (_, some n) => .tuple ⟨[nilV, iv (n : Nat)]⟩
abbrev preR (s : List UInt8) : List Value := [st s, nilV, iv 0, own0, iv 0]
noncomputable abbrev fO (s : List UInt8) (x : XA) (σ : St) : List Value → AH → Nat → Option (Bool × XA × St) := fun vs h z => some (tst (vs = preR s ∧ h = mkHV lq [.row false 3 []] ∧ z = 149), x, σ)
noncomputable abbrev RRu (x : XA) (σ : St) (s : List UInt8) := RF F5 [] (lkQ 3 tsR (fO s x σ) noLK) Tryd.f10 [st s]
noncomputable abbrev pT (s : List UInt8) (x : Option Value) : Option Value := bif tst (preR s = preR s ∧ mkHV lq [.row false 3 []] = mkHV lq [.row false 3 []] ∧ 149 = 149) then x else none
theorem ra (s : List UInt8) (a : Int) : RRu (.exit 0) (stT tsR [st s, nilV, iv 0, own0, iv a] 149 (mkHV lq [.row false 3 []])) s = pT s (gvT [iv 0, st [], iv (s.length : Nat)] (some (.tuple ⟨[gslV 1 0 false [iv 0, st [], iv (s.length : Nat)], iv (-1)]⟩))) := by kernel_rfl
theorem rb (s : List UInt8) (a : Int) (m : Nat) (cs : List Value) : RRu (.exit 0) (stT tsR [st s, nilV, iv 0, ownV m, iv a] 149 (mkHV lq [.row false 3 cs])) s = pT s (bif Nat.ble (m + 1) 4294967296 then bif Nat.ble (0 + m * 3) cs.length then bif Nat.beq (0 + m * 3) cs.length then gvT (List.take (m * 3) cs ++ [iv 0, st [], iv (s.length : Nat)]) (some (.tuple ⟨[gslV (m + 1) 0 false (List.take (m * 3) cs ++ [iv 0, st [], iv (s.length : Nat)]), iv (-1)]⟩)) else none else none else none) := by kernel_rfl
theorem rc (s : List UInt8) (a : Int) : RRu .ret (stT [0, 2, 3] [st s, nilV, iv a] 149 (hV lq)) s = pT s (some (.tuple ⟨[nilV, iv a]⟩)) := by kernel_rfl
theorem pT_ok {s : List UInt8} (x : Option Value) : pT s x = x := by unfold pT; rw [tst_of ⟨rfl, rfl, rfl⟩]; rfl
theorem rcut_run {s : List UInt8} (hs : s.length ≤ 16384) : RRu (outR s (cutAll s)).1 (outR s (cutAll s)).2 s = some (rcutV s (cutAll s)) := by
  have hlen : (cutAll s).1.length ≤ s.length := cut_len _ _ _ (bl_le s false) (Nat.zero_le _)
  cases hc : cutAll s with
  | mk ws o =>
  rw [hc] at hlen
  cases o with
  | some n => exact (rc s (n : Nat)).trans (pT_ok _)
  | none =>
    cases ws with
    | nil =>
      refine (ra s (s.length : Nat)).trans ((pT_ok _).trans ((gvT_plain ?_ _).trans rfl))
      intro v hv
      rcases List.mem_cons.1 hv with rfl | hv
      · rfl
      · rcases List.mem_cons.1 hv with rfl | hv
        · rfl
        · rw [List.mem_singleton.1 hv]; rfl
    | cons w r =>
      have e : List.take ((w :: r).length * 3) (wCs (w :: r)) ++ [iv 0, st [], iv (s.length : Nat)] = wCs (endW s (w :: r)) := by
        rw [List.take_of_length_le (by rw [wCs_len]; exact Nat.le_refl _), endW, wCs_app]; rfl
      have h := rb s (s.length : Nat) (w :: r).length (wCs (w :: r))
      dsimp only at hlen
      rw [pT_ok, ble_t (by omega), ble_t (by rw [wCs_len]; omega), beq_t (by rw [wCs_len]; omega), e, gvT_plain (wCs_plain _)] at h
      refine h.trans ?_
      show some (Value.tuple ⟨[gslV ((w :: r).length + 1) 0 false (wCs (endW s (w :: r))), iv (-1)]⟩) = some (Value.tuple ⟨[gslV (endW s (w :: r)).length 0 false (wCs (endW s (w :: r))), iv (-1)]⟩)
      rw [show (endW s (w :: r)).length = (w :: r).length + 1 by unfold endW; simp]
theorem loops10 : loopsOf (bodyOf Tryd.f10) = [loopN Tryd.f10 0] := by kernel_rfl
theorem rcut_con {s : List UInt8} (hs : s.length ≤ 16384) : ConQ Tryd.prog lq 10 [st s] (rcutV s (cutAll s)) := by
  refine conQ hmix (qA_ok F5_ok []) (qK_ok F5 []) (lkQ_ok noLK_ok) Tryd.func10 rfl (by kernel_rfl) (loQ_ok (fun c hc hr τ vs x' σ' hd hp h' => ?_) noLO_ok) (rcut_run hs)
  simp only [fO, Option.some.injEq, Prod.mk.injEq] at h'
  obtain ⟨ht, rfl, rfl⟩ := h'
  obtain ⟨rfl, hh, hz⟩ := of_tst ht
  rw [loops10, List.mem_singleton] at hc
  subst hc
  have hl := cutr_loop hs
  rw [cutAt0] at hl
  exact hl.enter (covers_T hz (picks_mkT hp) hh.symm hd.symm)
end Go.Proofs.YtachednafdmmaaaDoor.AI.Lx
