/- Words of texts that are not known. -/
import Derived.Test.YtachednafdmmaaaDoorProg
import Derived.Test.YtachednafdmmaaaDoorAIlo
import Derived.Shelf.Lay
import Derived.Shelf.LaySoft
import Derived.Shelf.Pu.ParseUintPublic10
import Derived.Ground.MpProg
import Derived.KernelRfl
namespace Go.Proofs.YtachednafdmmaaaDoor.AI.Lx
open Go Go.RowKit Go.Shelf
set_option linter.unusedVariables false
set_option linter.unusedSimpArgs false
theorem hmix : Tryd.prog.follows .mixedOrders = true := by kernel_rfl
abbrev st (l : List UInt8) : Value := .string ⟨⟨l⟩⟩
abbrev iv (n : Int) : Value := .int .i64 n
abbrev bv (n : Int) : Value := .int .u8 n
abbrev bo (b : Bool) : Option Value := some (.bool b)
/-- The variable that a number too great names. -/
abbrev errV : Value := .iface 83 (gptrV 0 [])
def lq : VTabs := [(1, [errV])]
theorem lq_g : GTab lq := by
  intro x hx v hv
  rw [lq, List.mem_singleton] at hx
  subst hx
  rw [List.mem_singleton] at hv
  subst hv
  exact .iface _ _ rfl (.gptr 0 [] (fun x hx => by cases hx))
noncomputable abbrev qA (F : TabF) (ins : List Nat) : CallA := mixA ins (callA Tryd.prog (glV lq) (regF Tryd.prog (glV lq)) 8 false) (sumQ (glV lq) lq (fun _ => 1) F)
noncomputable abbrev qK {R : Type} (F : TabF) (ins : List Nat) : CK R := mixK ins (inK Tryd.prog (glV lq) (regF Tryd.prog (glV lq)) 8) (sumQK (glV lq) lq (fun _ => 1) F)
theorem qA_ok {F : TabF} (hF : TabQ Tryd.prog lq F) (ins : List Nat) : CallOK Tryd.prog (glV lq) (qA F ins) := mixA_ok (callA_ok (regF_ok hmix) 8).1 (sumQ_ok lq_g _ hF)
theorem qK_ok {R : Type} (F : TabF) (ins : List Nat) : CKok (R := R) (qA F ins) (qK F ins) := mixK_ok (inK_ok 8) (sumQK_ok _ _ _ _)
/-- A function's run. -/
noncomputable abbrev RF (F : TabF) (ins : List Nat) (LK : LoopK Value) (fn : Func) (ar : List Value) : Option Value := runQ Tryd.prog lq (qA F ins) (qK F ins) LK 1 fn ar
def letB (c : Int) : Bool := (decide (c ≥ 97) && decide (c ≤ 122)) || (decide (c ≥ 65) && decide (c ≤ 90)) || (c == 95)
def digB (c : Int) : Bool := decide (c ≥ 48) && decide (c ≤ 57)
def namB (c : Int) : Bool := letB c || digB c
def nlB (c : Int) : Bool := c != 10
def byB (f : Int → Bool) (ar : List Value) : Option (Bool × Value) := match ar with
  | [.int .u8 c] => some (true, .bool (f c))
  | _ => none
def hpE (ar : List Value) : Option (Bool × Value) := match ar with
  | [.string s, .string p] => some (true, .bool (p.data.toList.isPrefixOf s.data.toList))
  | _ => none
theorem byB_some {f : Int → Bool} {ar : List Value} {v : Value} (h : byB f ar = some (true, v)) : ∃ c, ar = [bv c] ∧ v = .bool (f c) := by
  unfold byB at h
  split at h
  · cases h; exact ⟨_, rfl, rfl⟩
  · cases h
theorem hpE_some {ar : List Value} {v : Value} (h : hpE ar = some (true, v)) : ∃ s p, ar = [st s, st p] ∧ v = .bool (p.isPrefixOf s) := by
  unfold hpE at h
  split at h
  · rename_i s p
    cases h
    obtain ⟨⟨s⟩⟩ := s
    obtain ⟨⟨p⟩⟩ := p
    exact ⟨s, p, rfl, rfl⟩
  · cases h
/-- From a run with no loops. -/
theorem conF {F : TabF} (hF : TabQ Tryd.prog lq F) (ins : List Nat) {g : FuncId} {fn : Func} {c : Code} {ar : List Value} {v : Value} (hfn : Tryd.prog.funcs[g]? = some fn) (hb : fn.body = some c) (hname : (fn.name == "runtime.NumGoroutine") = false) (hr : RF F ins noLK fn ar = some v) : ConQ Tryd.prog lq g ar v :=
  conQ hmix (qA_ok hF ins) (qK_ok F ins) noLK_ok hfn hb hname noLO_ok hr
abbrev bT : Option Value := some (.bool true)
abbrev bF : Option Value := some (.bool false)
theorem let_run (c : Int) : RF noG [] noLK Tryd.f28 [bv c] = bo (letB c) ∧ RF noG [] noLK Tryd.f14 [bv c] = bo (letB c) := by
  have key : (bif decide (c ≥ 97) then bif decide (c ≤ 122) then bT else bif decide (c ≥ 65) then bif decide (c ≤ 90) then bT else bif c == 95 then bT else bF else bif c == 95 then bT else bF else bif decide (c ≥ 65) then bif decide (c ≤ 90) then bT else bif c == 95 then bT else bF else bif c == 95 then bT else bF) = bo (letB c) := by
    unfold letB
    cases decide (c ≥ 97) <;> cases decide (c ≤ 122) <;> cases decide (c ≥ 65) <;> cases decide (c ≤ 90) <;> cases c == 95 <;> rfl
  refine ⟨Eq.trans ?_ key, Eq.trans ?_ key⟩ <;> kernel_rfl
theorem dig_run (c : Int) : RF noG [] noLK Tryd.f31 [bv c] = bo (digB c) ∧ RF noG [] noLK Tryd.f15 [bv c] = bo (digB c) := by
  have key : (bif decide (c ≥ 48) then bif decide (c ≤ 57) then bT else bF else bF) = bo (digB c) := by
    unfold digB
    cases decide (c ≥ 48) <;> cases decide (c ≤ 57) <;> rfl
  refine ⟨Eq.trans ?_ key, Eq.trans ?_ key⟩ <;> kernel_rfl
theorem nl_run (c : Int) : RF noG [] noLK Tryd.f27 [bv c] = bo (nlB c) := by
  have key : (bif c != 10 then bT else bF) = bo (nlB c) := by
    unfold nlB
    cases c != 10 <;> rfl
  refine Eq.trans ?_ key
  kernel_rfl
theorem nam_run (c : Int) : RF noG [28, 31] noLK Tryd.f29 [bv c] = bo (namB c) := by
  have key : (bif decide (c ≥ 97) then bif decide (c ≤ 122) then bT else bif decide (c ≥ 65) then bif decide (c ≤ 90) then bT else bif c == 95 then bT else bif decide (c ≥ 48) then bif decide (c ≤ 57) then bT else bF else bF else bif c == 95 then bT else bif decide (c ≥ 48) then bif decide (c ≤ 57) then bT else bF else bF else bif decide (c ≥ 65) then bif decide (c ≤ 90) then bT else bif c == 95 then bT else bif decide (c ≥ 48) then bif decide (c ≤ 57) then bT else bF else bF else bif c == 95 then bT else bif decide (c ≥ 48) then bif decide (c ≤ 57) then bT else bF else bF) = bo (namB c) := by
    unfold namB letB digB
    cases decide (c ≥ 97) <;> cases decide (c ≤ 122) <;> cases decide (c ≥ 65) <;> cases decide (c ≤ 90) <;> cases c == 95 <;> cases decide (c ≥ 48) <;> cases decide (c ≤ 57) <;> rfl
  refine Eq.trans ?_ key
  kernel_rfl
theorem prefix_take : ∀ (p s : List UInt8), (bif decide ((s.length : Int) ≥ (p.length : Int)) then (bif Nat.ble (Int.toNat (p.length : Int)) s.length then (bif List.take (Int.toNat (p.length : Int)) s == p then bT else bF) else none) else bF) = bo (p.isPrefixOf s) := by
  intro p s
  rw [Int.toNat_natCast]
  have hp : p.isPrefixOf s = true ↔ s.take p.length = p := by
    rw [List.isPrefixOf_iff_prefix]
    constructor
    · rintro ⟨r, rfl⟩; exact List.take_left
    · intro h; exact ⟨s.drop p.length, Eq.trans (congrArg (· ++ s.drop p.length) h.symm) (List.take_append_drop _ _)⟩
  by_cases h : p.length ≤ s.length
  · rw [decide_eq_true (by omega), ble_t h]
    by_cases ht : s.take p.length = p
    · rw [ht, beq_self_eq_true, hp.2 ht]; rfl
    · rw [beq_false_of_ne ht]
      have : p.isPrefixOf s = false := by rw [← Bool.not_eq_true]; exact fun g => ht (hp.1 g)
      rw [this]; rfl
  · rw [decide_eq_false (by omega)]
    have : p.isPrefixOf s = false := by
      rw [← Bool.not_eq_true]; intro g
      have := congrArg List.length (hp.1 g)
      rw [List.length_take] at this; omega
    rw [this]; rfl
theorem hp_run (s p : List UInt8) : RF noG [41] noLK Tryd.f25 [st s, st p] = bo (p.isPrefixOf s) := by
  refine Eq.trans ?_ (prefix_take p s)
  kernel_rfl
/-- What is known of single bytes, and of how a text begins. -/
noncomputable def F0 : TabF := andG 28 (byB letB) <| andG 29 (byB namB) <| andG 31 (byB digB) <| andG 27 (byB nlB) <| andG 14 (byB letB) <| andG 15 (byB digB) <| andG 25 hpE noG
theorem F0_ok : TabQ Tryd.prog lq F0 := by
  have k {f : Int → Bool} {i : List Nat} {g : FuncId} {fn : Func} {c : Code} (hfn : Tryd.prog.funcs[g]? = some fn) (hb : fn.body = some c) (hname : (fn.name == "runtime.NumGoroutine") = false) (hr : ∀ c, RF noG i noLK fn [bv c] = bo (f c)) : ∀ ar v, byB f ar = some (true, v) → ConQ Tryd.prog lq g ar v := fun ar v h => by
    obtain ⟨c, rfl, rfl⟩ := byB_some h
    exact conF noQ_ok i hfn hb hname (hr c)
  refine andQ_ok Tryd.func28 rfl (by kernel_rfl) (k Tryd.func28 rfl (by kernel_rfl) fun c => (let_run c).1) ?_
  refine andQ_ok Tryd.func29 rfl (by kernel_rfl) (k Tryd.func29 rfl (by kernel_rfl) nam_run) ?_
  refine andQ_ok Tryd.func31 rfl (by kernel_rfl) (k Tryd.func31 rfl (by kernel_rfl) fun c => (dig_run c).1) ?_
  refine andQ_ok Tryd.func27 rfl (by kernel_rfl) (k Tryd.func27 rfl (by kernel_rfl) nl_run) ?_
  refine andQ_ok Tryd.func14 rfl (by kernel_rfl) (k Tryd.func14 rfl (by kernel_rfl) fun c => (let_run c).2) ?_
  refine andQ_ok Tryd.func15 rfl (by kernel_rfl) (k Tryd.func15 rfl (by kernel_rfl) fun c => (dig_run c).2) ?_
  refine andQ_ok Tryd.func25 rfl (by kernel_rfl) (fun ar v h => ?_) noQ_ok
  obtain ⟨s, p, rfl, rfl⟩ := hpE_some h
  exact conF noQ_ok [41] Tryd.func25 rfl (by kernel_rfl) (hp_run s p)
abbrev fv (g : Nat) : Value := .func (.func g) #[] #[]
/-- How many bytes at a text's beginning are of a kind. -/
def whN (p : Int → Bool) : List UInt8 → Nat
  | [] => 0
  | b :: r => bif p (b.toNat : Int) then whN p r + 1 else 0
theorem whN_le (p : Int → Bool) : ∀ l, whN p l ≤ l.length
  | [] => Nat.le_refl _
  | b :: r => by
    unfold whN
    have := whN_le p r
    cases p (b.toNat : Int)
    · exact Nat.zero_le _
    · exact Nat.succ_le_succ this
theorem byte_at {s : List UInt8} {n : Nat} (h : n < s.length) : byteAt s (Int.toNat (n : Int)) = ((s[n]'h).toNat : Int) := by
  rw [Int.toNat_natCast]; unfold byteAt; rw [List.getElem?_eq_getElem h]
theorem wrap1 {n : Nat} (h : n < 10000000) : IntKind.wrap IntKind.i64 ((n : Int) + 1) = ((n + 1 : Nat) : Int) := by rw [i64w]; omega
noncomputable abbrev WT (p : Int → Bool) (g : Nat) (s : List UInt8) (n : Int) : Option (XA × List Value × AH × Nat) :=
  bif decide (n < (s.length : Int)) then bif decide (0 ≤ n) then bif Nat.ble (Int.toNat n + 1) s.length then bif tst ([errV] = [errV]) && true then bif p (byteAt s (Int.toNat n)) then some (XA.normal, [st s, fv g, iv (IntKind.wrap IntKind.i64 (n + 1))], hV lq, 20) else some (XA.exit 0, [st s, fv g, iv n], hV lq, 20) else none else none else none else some (XA.exit 0, [st s, fv g, iv n], hV lq, 20)
noncomputable abbrev ZW (g : Nat) (s : List UInt8) (n : Int) := ZQ Tryd.prog lq (qA F0 []) (qK F0 []) noLK Tryd.f26 0 [0, 1, 5] [st s, fv g, iv n]
theorem tW22 (s : List UInt8) (n : Int) : ZW 29 s n = WT namB 29 s n := by kernel_rfl
theorem tW23 (s : List UInt8) (n : Int) : ZW 31 s n = WT digB 31 s n := by kernel_rfl
theorem tW20 (s : List UInt8) (n : Int) : ZW 27 s n = WT nlB 27 s n := by kernel_rfl
theorem drop_cons {s : List UInt8} {n : Nat} (h : n < s.length) : s.drop n = s[n] :: s.drop (n + 1) := List.drop_eq_getElem_cons h
theorem wh_step {p : Int → Bool} {g : Nat} {s : List UInt8} (ht : ∀ n, ZW g s n = WT p g s n) (hs : s.length ≤ 100000) :
    LoopTri Tryd.prog (glV lq) (hV lq) (loopN Tryd.f26 0) (stT [0, 1, 5] [st s, fv g, iv ((0 : Nat) : Int)] 20 (hV lq)) (.exit 0) (stT [0, 1, 5] [st s, fv g, iv ((0 + whN p (s.drop 0) : Nat) : Int)] 20 (hV lq)) := by
  refine loop_plainO hmix (qA_ok F0_ok []) (qK_ok F0 []) noLK_ok noLO_ok (c := loopN Tryd.f26 0) [0, 1, 5] (X := {n : Nat // n ≤ s.length}) (fun n => [st s, fv g, iv (n.1 : Int)]) (fun n => s.length - n.1)
    (fun n => (.exit 0, [st s, fv g, iv ((n.1 + whN p (s.drop n.1) : Nat) : Int)])) (fun ⟨n, hn⟩ => ?_) ⟨0, Nat.zero_le _⟩
  dsimp only
  have h := ht (n : Int)
  by_cases hlt : n < s.length
  · rw [WT, decide_eq_true (show (n : Int) < (s.length : Int) by omega), decide_eq_true (show (0 : Int) ≤ n by omega), ble_t (show Int.toNat (n : Int) + 1 ≤ s.length by omega), tst_of rfl, byte_at hlt] at h
    rw [drop_cons hlt, whN]
    cases hp : p ((s[n]).toNat : Int) with
    | true =>
      rw [hp, wrap1 (by omega)] at h
      refine ⟨_, _, h, .inl ⟨rfl, ⟨n + 1, hlt⟩, rfl, by dsimp only; omega, ?_⟩⟩
      dsimp only
      rw [cond_true, show n + 1 + whN p (s.drop (n + 1)) = n + (whN p (s.drop (n + 1)) + 1) by omega]
    | false =>
      rw [hp] at h
      exact ⟨_, _, h, .inr ⟨by simp, rfl⟩⟩
  · obtain rfl : n = s.length := by omega
    rw [WT, decide_eq_false (Int.lt_irrefl _)] at h
    rw [List.drop_length]
    exact ⟨_, _, h, .inr ⟨by simp, rfl⟩⟩
theorem loops19 : loopsOf (bodyOf Tryd.f26) = [loopN Tryd.f26 0] := by kernel_rfl
noncomputable abbrev RW (p : Int → Bool) (g : Nat) (s : List UInt8) := RF F0 [] (lkV lq 2 [0, 1, 5] [st s, fv g, iv ((0 : Nat) : Int)] [st s, fv g, iv ((0 + whN p (s.drop 0) : Nat) : Int)] 20 (.exit 0) noLK) Tryd.f26 [st s, fv g]
theorem tw22 (s : List UInt8) : RW namB 29 s = bif tst ([st s, fv 29, iv 0] = [st s, fv 29, iv ((0 : Nat) : Int)] ∧ hV lq = hV lq ∧ 20 = 20) then some (iv ((0 + whN namB (s.drop 0) : Nat) : Int)) else none := by kernel_rfl
theorem tw23 (s : List UInt8) : RW digB 31 s = bif tst ([st s, fv 31, iv 0] = [st s, fv 31, iv ((0 : Nat) : Int)] ∧ hV lq = hV lq ∧ 20 = 20) then some (iv ((0 + whN digB (s.drop 0) : Nat) : Int)) else none := by kernel_rfl
theorem tw20 (s : List UInt8) : RW nlB 27 s = bif tst ([st s, fv 27, iv 0] = [st s, fv 27, iv ((0 : Nat) : Int)] ∧ hV lq = hV lq ∧ 20 = 20) then some (iv ((0 + whN nlB (s.drop 0) : Nat) : Int)) else none := by kernel_rfl
theorem wh_con {p : Int → Bool} {g : Nat} {s : List UInt8} (ht : ∀ n, ZW g s n = WT p g s n) (hs : s.length ≤ 100000) (hr : RW p g s = bif tst ([st s, fv g, iv 0] = [st s, fv g, iv ((0 : Nat) : Int)] ∧ hV lq = hV lq ∧ 20 = 20) then some (iv ((0 + whN p (s.drop 0) : Nat) : Int)) else none) :
    ConQ Tryd.prog lq 26 [st s, fv g] (iv (whN p s : Nat)) := by
  rw [tst_of ⟨rfl, rfl, rfl⟩, Nat.zero_add, List.drop_zero] at hr
  refine conQ hmix (qA_ok F0_ok []) (qK_ok F0 []) (lkQ_ok noLK_ok) Tryd.func26 rfl (by kernel_rfl) (loV_ok (fun c hc _ => ?_) noLO_ok) hr
  rw [loops19, List.mem_singleton] at hc
  subst hc
  exact wh_step ht hs
noncomputable def whE (ar : List Value) : Option (Bool × Value) := match ar with
  | [.string s, .func (.func g) ⟨[]⟩ ⟨[]⟩] => bif Nat.beq g 29 then some (tst (s.data.toList.length ≤ 100000), iv (whN namB s.data.toList : Nat)) else bif Nat.beq g 31 then some (tst (s.data.toList.length ≤ 100000), iv (whN digB s.data.toList : Nat)) else bif Nat.beq g 27 then some (tst (s.data.toList.length ≤ 100000), iv (whN nlB s.data.toList : Nat)) else none
  | _ => none
theorem whE_con {ar : List Value} {v : Value} (h : whE ar = some (true, v)) : ConQ Tryd.prog lq 26 ar v := by
  unfold whE at h
  split at h
  · rename_i s g
    obtain ⟨⟨s⟩⟩ := s
    by_cases h1 : g = 29
    · subst h1
      obtain ⟨ht, rfl⟩ := Prod.mk.inj (Option.some.inj h)
      exact wh_con (tW22 s) (of_tst ht) (tw22 s)
    · rw [beq_f h1, cond_false] at h
      by_cases h2 : g = 31
      · subst h2
        obtain ⟨ht, rfl⟩ := Prod.mk.inj (Option.some.inj h)
        exact wh_con (tW23 s) (of_tst ht) (tw23 s)
      · rw [beq_f h2, cond_false] at h
        by_cases h3 : g = 27
        · subst h3
          obtain ⟨ht, rfl⟩ := Prod.mk.inj (Option.some.inj h)
          exact wh_con (tW20 s) (of_tst ht) (tw20 s)
        · rw [beq_f h3] at h; cases h
  · cases h
noncomputable def F1 : TabF := andG 26 whE F0
theorem F1_ok : TabQ Tryd.prog lq F1 := andQ_ok Tryd.func26 rfl (by kernel_rfl) (fun ar v h => whE_con h) F0_ok
def blankB (c : Int) : Bool := c == 32 || (c == 9 || (c == 10 || c == 13))
/-- How many bytes stand ahead of the next word (true: in a remark). -/
def bl : Bool → List UInt8 → Nat
  | _, [] => 0
  | false, c :: r => bif blankB (c.toNat : Int) then bl false r + 1 else bif [47, 47].isPrefixOf (c :: r) then bl true r + 1 else 0
  | true, c :: r => bif nlB (c.toNat : Int) then bl true r + 1 else bl false r + 1
theorem bl_le : ∀ (l : List UInt8) (b : Bool), bl b l ≤ l.length
  | [], b => by cases b <;> exact Nat.le_refl _
  | c :: r, false => by
    unfold bl
    have h1 := bl_le r false
    have h2 := bl_le r true
    cases blankB (c.toNat : Int) <;> cases [47, 47].isPrefixOf (c :: r) <;> simp only [cond_true, cond_false, List.length_cons] <;> omega
  | c :: r, true => by
    unfold bl
    have h1 := bl_le r false
    have h2 := bl_le r true
    cases nlB (c.toNat : Int) <;> simp only [cond_true, cond_false, List.length_cons] <;> omega
theorem bl_wh : ∀ (l : List UInt8), bl true l = whN nlB l + bl false (l.drop (whN nlB l))
  | [] => rfl
  | c :: r => by
    unfold whN
    cases h : nlB (c.toNat : Int) with
    | true =>
      conv => lhs; unfold bl; rw [h, cond_true, bl_wh r]
      rw [cond_true, List.drop_succ_cons]
      omega
    | false =>
      have hb : blankB (c.toNat : Int) = true := by
        have : (c.toNat : Int) = 10 := by simpa [nlB] using h
        rw [this]; rfl
      rw [cond_false, List.drop_zero, Nat.zero_add]
      conv => lhs; unfold bl; rw [h, cond_false]
      conv => rhs; unfold bl; rw [hb, cond_true]
theorem bl_rem {l : List UInt8} (h : [47, 47].isPrefixOf l = true) : bl false l = bl true l := by
  obtain ⟨r, rfl⟩ := List.isPrefixOf_iff_prefix.1 h
  show bl false (47 :: 47 :: r) = bl true (47 :: 47 :: r)
  have e1 : bl false (47 :: 47 :: r) = bl true (47 :: r) + 1 := by
    conv => lhs; unfold bl
    rw [show blankB ((47 : UInt8).toNat : Int) = false by decide, cond_false, show ([47, 47] : List UInt8).isPrefixOf (47 :: 47 :: r) = true from h]; rfl
  have e2 : bl true (47 :: 47 :: r) = bl true (47 :: r) + 1 := by
    conv => lhs; unfold bl
    rw [show nlB ((47 : UInt8).toNat : Int) = true by decide]; rfl
  rw [e1, e2]
theorem slice_from {s : List UInt8} {n : Nat} : List.take (s.length - n) (s.drop n) = s.drop n := List.take_of_length_le (by rw [List.length_drop]; exact Nat.le_refl _)
noncomputable abbrev tE : Bool := tst ([errV] = [errV]) && true
theorem tE_t : tE = true := by unfold tE; rw [tst_of rfl]; rfl
noncomputable abbrev ZBl (s : List UInt8) (n : Int) := ZQ Tryd.prog lq (qA F1 []) (qK F1 []) noLK Tryd.f20 0 [0, 2, 3] [st s, iv 0, iv n]
theorem tBl (s : List UInt8) (n : Int) : ZBl s n = bif decide (n < (s.length : Int)) then bif decide (0 ≤ n) then bif Nat.ble (Int.toNat n + 1) (List.length s) then bif byteAt s (Int.toNat n) == 32 then some (XA.normal, [st s, iv 0, iv (IntKind.wrap IntKind.i64 (n + 1))], hV lq, 42) else bif byteAt s (Int.toNat n) == 9 then some (XA.normal, [st s, iv 0, iv (IntKind.wrap IntKind.i64 (n + 1))], hV lq, 42) else bif byteAt s (Int.toNat n) == 10 then some (XA.normal, [st s, iv 0, iv (IntKind.wrap IntKind.i64 (n + 1))], hV lq, 42) else bif byteAt s (Int.toNat n) == 13 then some (XA.normal, [st s, iv 0, iv (IntKind.wrap IntKind.i64 (n + 1))], hV lq, 42)
    else bif decide (0 ≤ n) then bif Nat.ble (Int.toNat n) (List.length s) then bif Nat.ble (List.length s) (List.length s) then bif tE then bif List.isPrefixOf [47, 47] (List.take (List.length s - Int.toNat n) (List.drop (Int.toNat n) s)) then bif decide (0 ≤ n) then bif Nat.ble (Int.toNat n) (List.length s) then bif Nat.ble (List.length s) (List.length s) then bif tE then bif tst (List.length (List.take (List.length s - Int.toNat n) (List.drop (Int.toNat n) s)) ≤ 100000) then some (XA.normal, [st s, iv 0, iv (IntKind.wrap IntKind.i64 (n + (whN nlB (List.take (List.length s - Int.toNat n) (List.drop (Int.toNat n) s)) : Nat)))], hV lq, 42) else none else none else none else none else none
    else some (XA.ret, [st s, iv n, iv n], hV lq, 42) else none else none else none else none else none else none else some (XA.exit 0, [st s, iv 0, iv n], hV lq, 42) := by kernel_rfl
theorem bif4 {α : Type} (a b c d : Bool) (x y : α) : (bif a then x else bif b then x else bif c then x else bif d then x else y) = bif (a || (b || (c || d))) then x else y := by cases a <;> cases b <;> cases c <;> cases d <;> rfl
def blFin (s : List UInt8) (f : Nat) : XA × List Value := if f = s.length then (.exit 0, [st s, iv 0, iv (f : Nat)]) else (.ret, [st s, iv (f : Nat), iv (f : Nat)])
theorem bl_loop {s : List UInt8} (hs : s.length ≤ 100000) :
    LoopTri Tryd.prog (glV lq) (hV lq) (loopN Tryd.f20 0) (stT [0, 2, 3] [st s, iv 0, iv ((0 : Nat) : Int)] 42 (hV lq)) (blFin s (0 + bl false (s.drop 0))).1 (stT [0, 2, 3] (blFin s (0 + bl false (s.drop 0))).2 42 (hV lq)) := by
  refine loop_plainO hmix (qA_ok F1_ok []) (qK_ok F1 []) noLK_ok noLO_ok (c := loopN Tryd.f20 0) [0, 2, 3] (X := {n : Nat // n ≤ s.length}) (fun n => [st s, iv 0, iv (n.1 : Int)]) (fun n => s.length - n.1)
    (fun n => blFin s (n.1 + bl false (s.drop n.1))) (fun ⟨n, hn⟩ => ?_) ⟨0, Nat.zero_le _⟩
  dsimp only
  have h := tBl s (n : Int)
  by_cases hlt : n < s.length
  · have hd := drop_cons hlt
    rw [bif4, decide_eq_true (show (n : Int) < (s.length : Int) by omega), decide_eq_true (show (0 : Int) ≤ n by omega), ble_t (show Int.toNat (n : Int) + 1 ≤ s.length by omega), byte_at hlt] at h
    simp only [cond_true, Int.toNat_natCast, slice_from, ble_t hn, ble_t (Nat.le_refl s.length), tE_t] at h
    cases hb : blankB ((s[n]).toNat : Int) with
    | true =>
      have hb' : ((((s[n]).toNat : Int) == 32) || ((((s[n]).toNat : Int) == 9) || ((((s[n]).toNat : Int) == 10) || (((s[n]).toNat : Int) == 13)))) = true := hb
      rw [hb', wrap1 (by omega)] at h
      refine ⟨_, _, h, .inl ⟨rfl, ⟨n + 1, hlt⟩, rfl, by dsimp only; omega, ?_⟩⟩
      dsimp only
      have e : bl false (s.drop n) = bl false (s.drop (n + 1)) + 1 := by rw [hd]; conv => lhs; unfold bl; rw [hb, cond_true]
      rw [e, show n + 1 + bl false (s.drop (n + 1)) = n + (bl false (s.drop (n + 1)) + 1) by omega]
    | false =>
      have hb' : ((((s[n]).toNat : Int) == 32) || ((((s[n]).toNat : Int) == 9) || ((((s[n]).toNat : Int) == 10) || (((s[n]).toNat : Int) == 13)))) = false := hb
      rw [hb', cond_false] at h
      cases hp : [47, 47].isPrefixOf (s.drop n) with
      | true =>
        have hw := whN_le nlB (s.drop n)
        rw [List.length_drop] at hw
        rw [hp, cond_true, tst_of (show (s.drop n).length ≤ 100000 by rw [List.length_drop]; omega), cond_true, show IntKind.wrap IntKind.i64 ((n : Int) + (whN nlB (s.drop n) : Nat)) = ((n + whN nlB (s.drop n) : Nat) : Int) by rw [i64w]; omega] at h
        refine ⟨_, _, h, .inl ⟨rfl, ⟨n + whN nlB (s.drop n), by omega⟩, rfl, ?_, ?_⟩⟩
        · dsimp only
          have : 0 < whN nlB (s.drop n) := by
            obtain ⟨r, hr⟩ := List.isPrefixOf_iff_prefix.1 hp
            rw [← hr]
            show 0 < whN nlB (47 :: 47 :: r)
            unfold whN
            rw [show nlB ((47 : UInt8).toNat : Int) = true by decide]; exact Nat.succ_pos _
          omega
        · dsimp only
          rw [bl_rem hp, bl_wh, List.drop_drop, show n + whN nlB (s.drop n) + bl false (s.drop (n + whN nlB (s.drop n))) = n + (whN nlB (s.drop n) + bl false (s.drop (n + whN nlB (s.drop n)))) by omega]
      | false =>
        rw [hp, cond_false] at h
        refine ⟨_, _, h, .inr ⟨by simp, ?_⟩⟩
        have e : bl false (s.drop n) = 0 := by rw [hd] at hp ⊢; conv => lhs; unfold bl; rw [hb, cond_false, hp, cond_false]
        rw [e, Nat.add_zero, blFin, if_neg (by omega)]
  · obtain rfl : n = s.length := by omega
    rw [decide_eq_false (Int.lt_irrefl _)] at h
    rw [List.drop_length]
    refine ⟨_, _, h, .inr ⟨by simp, ?_⟩⟩
    rw [blFin, if_pos (by rfl)]; rfl
theorem loops12 : loopsOf (bodyOf Tryd.f20) = [loopN Tryd.f20 0] := by kernel_rfl
noncomputable abbrev RBl (s : List UInt8) (x : XA) (post : List Value) := RF F1 [] (lkV lq 2 [0, 2, 3] [st s, iv 0, iv ((0 : Nat) : Int)] post 42 x noLK) Tryd.f20 [st s]
theorem tb0 (s : List UInt8) (f : Int) : RBl s (.exit 0) [st s, iv 0, iv f] = bif tst ([st s, iv 0, iv 0] = [st s, iv 0, iv ((0 : Nat) : Int)] ∧ hV lq = hV lq ∧ 42 = 42) then some (iv f) else none := by kernel_rfl
theorem tb1 (s : List UInt8) (f : Int) : RBl s .ret [st s, iv f, iv f] = bif tst ([st s, iv 0, iv 0] = [st s, iv 0, iv ((0 : Nat) : Int)] ∧ hV lq = hV lq ∧ 42 = 42) then some (iv f) else none := by kernel_rfl
theorem bl_con {s : List UInt8} (hs : s.length ≤ 100000) : ConQ Tryd.prog lq 20 [st s] (iv (bl false s : Nat)) := by
  have hl := bl_loop hs
  rw [Nat.zero_add, List.drop_zero] at hl
  have key : RBl s (blFin s (bl false s)).1 (blFin s (bl false s)).2 = some (iv (bl false s : Nat)) := by
    unfold blFin
    split
    · exact (tb0 s _).trans (by rw [tst_of ⟨rfl, rfl, rfl⟩]; rfl)
    · exact (tb1 s _).trans (by rw [tst_of ⟨rfl, rfl, rfl⟩]; rfl)
  refine conQ hmix (qA_ok F1_ok []) (qK_ok F1 []) (lkQ_ok noLK_ok) Tryd.func20 rfl (by kernel_rfl) (loV_ok (fun c hc _ => ?_) noLO_ok) key
  rw [loops12, List.mem_singleton] at hc
  subst hc
  exact hl
noncomputable def blE (ar : List Value) : Option (Bool × Value) := match ar with
  | [.string s] => some (tst (s.data.toList.length ≤ 100000), iv (bl false s.data.toList : Nat))
  | _ => none
noncomputable def F2 : TabF := andG 20 blE F1
theorem F2_ok : TabQ Tryd.prog lq F2 := andQ_ok Tryd.func20 rfl (by kernel_rfl) (fun ar v h => by
  unfold blE at h
  split at h
  · rename_i s
    obtain ⟨⟨s⟩⟩ := s
    obtain ⟨ht, rfl⟩ := Prod.mk.inj (Option.some.inj h)
    exact bl_con (of_tst ht)
  · cases h) F1_ok
/-- The names that are kept. -/
def keptL : List (List UInt8) := [[115, 116, 114, 117, 99, 116], [118, 97, 114], [102, 117, 110, 99], [105, 110, 116], [98, 111, 111, 108], [99, 104, 97, 110], [105, 102], [101, 108, 115, 101], [119, 104, 105, 108, 101], [114, 101, 116, 117, 114, 110], [112, 114, 105, 110, 116], [103, 111], [115, 101, 110, 100], [99, 108, 111, 115, 101], [115, 101, 108, 101, 99, 116], [99, 97, 115, 101], [100, 101, 102, 97, 117, 108, 116], [114, 101, 99, 118], [116, 114, 117, 101], [102, 97, 108, 115, 101], [110, 105, 108], [110, 101, 119], [109, 97, 107, 101], [108, 101, 110]]
def keptB (l : List UInt8) : Bool := keptL.any fun a => l == a
def chainA (l : List UInt8) : List (List UInt8) → Option Value
  | [] => bF
  | a :: r => bif l == a then bT else chainA l r
def chainB (l : List UInt8) : List (List UInt8) → Option Value
  | [] => bF
  | a :: r => bif a == l then bT else chainB l r
theorem chainA_any (l : List UInt8) : ∀ r, chainA l r = bo (r.any fun a => l == a) := by
  intro r
  induction r with
  | nil => rfl
  | cons a r ih =>
    simp only [chainA, List.any_cons]
    cases h : l == a
    · exact ih
    · rfl
theorem chainB_any (l : List UInt8) : ∀ r, chainB l r = bo (r.any fun a => l == a) := by
  intro r
  induction r with
  | nil => rfl
  | cons a r ih =>
    simp only [chainB, List.any_cons]
    rw [BEq.comm (a := a) (b := l)]
    cases h : l == a
    · exact ih
    · rfl
def kpE (ar : List Value) : Option (Bool × Value) := match ar with
  | [.string s] => some (true, .bool (keptB s.data.toList))
  | _ => none
theorem kp_run (s : List UInt8) : RF noG [] noLK Tryd.f30 [st s] = bo (keptB s) := (show RF noG [] noLK Tryd.f30 [st s] = chainA s keptL by kernel_rfl).trans (chainA_any s keptL)
theorem kpR_run (s : List UInt8) : RF noG [] (lkIt Tryd.prog (glV lq) (qA noG []) (qK noG []) noLK 40) Tryd.f16 [st s] = bo (keptB s) := (show RF noG [] (lkIt Tryd.prog (glV lq) (qA noG []) (qK noG []) noLK 40) Tryd.f16 [st s] = chainB s keptL by kernel_rfl).trans (chainB_any s keptL)
/-- From a run whose loops are gone through. -/
theorem conIt {F : TabF} (hF : TabQ Tryd.prog lq F) (ins : List Nat) (n : Nat) {g : FuncId} {fn : Func} {c : Code} {ar : List Value} {v : Value} (hfn : Tryd.prog.funcs[g]? = some fn) (hb : fn.body = some c) (hname : (fn.name == "runtime.NumGoroutine") = false) (hlo : ((loopsOf (bodyOf fn)).all fun c => (loopsOf c).isEmpty) = true)
    (hr : RF F ins (lkIt Tryd.prog (glV lq) (qA F ins) (qK F ins) noLK n) fn ar = some v) : ConQ Tryd.prog lq g ar v :=
  conQ hmix (qA_ok hF ins) (qK_ok F ins) (lkIt_ok (qK_ok F ins) noLK_ok n) hfn hb hname (loIt_ok hmix (qA_ok hF ins) (fun c hc => by
    have := List.all_eq_true.1 hlo c hc
    rw [List.isEmpty_iff.1 this]
    intro c' hc'; cases hc') n) hr
noncomputable def F3 : TabF := andG 30 kpE <| andG 16 kpE F2
theorem F3_ok : TabQ Tryd.prog lq F3 :=
  andQ_ok Tryd.func30 rfl (by kernel_rfl) (fun ar v h => by
    unfold kpE at h
    split at h
    · rename_i s
      obtain ⟨⟨s⟩⟩ := s
      cases h
      exact conF noQ_ok [] Tryd.func30 rfl (by kernel_rfl) (kp_run s)
    · cases h) <|
  andQ_ok Tryd.func16 rfl (by kernel_rfl) (fun ar v h => by
    unfold kpE at h
    split at h
    · rename_i s
      obtain ⟨⟨s⟩⟩ := s
      cases h
      exact conIt noQ_ok [] 40 Tryd.func16 rfl (by kernel_rfl) (by kernel_rfl) (kpR_run s)
    · cases h) F2_ok
shelf_lay Go.Proofs.LaysPu.n14 Mp 14 at Tryd as puLay
noncomputable def puOk (u : Nat) (ar : List Value) : Option (Bool × Value) := match ar with
  | [.string s, .int .i64 10, .int .i64 64] => some (tst (Lib.parseUintB 64 s.data.toList = .ok u ∧ s.data.toList.length ≤ 100000), .tuple ⟨[.int .u64 u, .nilIface]⟩)
  | _ => none
noncomputable def puNo (ar : List Value) : Option (Bool × Value) := match ar with
  | [.string s, .int .i64 10, .int .i64 64] => some (tst (Lib.parseUintB 64 s.data.toList = .range ∧ s.data.toList.length ≤ 100000), .tuple ⟨[.int .u64 18446744073709551615, .iface 75 (gptrV 0 [])]⟩)
  | _ => none
theorem puOk_con {u : Nat} {ar : List Value} {v : Value} (h : puOk u ar = some (true, v)) : ConQ Tryd.prog lq 32 ar v := by
  unfold puOk at h
  split at h
  · rename_i s
    obtain ⟨ht, rfl⟩ := Prod.mk.inj (Option.some.inj h)
    obtain ⟨h1, h2⟩ := of_tst ht
    refine conQ_plain rfl rfl fun w S _ => ?_
    have hs : s.size ≤ 9223372036854775806 := by
      have : s.size = s.data.toList.length := rfl
      omega
    refine (Any.strconv_ParseUint_10_at64_ok puLay s hs u h1 w).mono ?_
    rintro e w' ⟨rfl, rfl | rfl⟩
    · exact ⟨rfl, .refl _ _⟩
    · exact ⟨rfl, Lib.bytesWorld_below _ _ _⟩
  · cases h
theorem errV_inv {μ : Mu} {n : Nat} {c : Value} (h : VRel μ n errV c) : ∃ te pe, c = .iface te pe := by
  cases h with
  | plain v hp => simp [plain1] at hp
  | iface t v v' ht h => exact ⟨_, _, rfl⟩
theorem puNo_con {ar : List Value} {v : Value} (h : puNo ar = some (true, v)) : ConQ Tryd.prog lq 32 ar v := by
  unfold puNo at h
  split at h
  · rename_i s
    obtain ⟨ht, rfl⟩ := Prod.mk.inj (Option.some.inj h)
    obtain ⟨h1, h2⟩ := of_tst ht
    intro w S args hw hargs
    have ha : args = ⟨[.string s, .int .i64 10, .int .i64 64]⟩ := Array.ext' (LRel.plainV_eq hargs rfl)
    subst ha
    obtain ⟨C, e, fz, hC, hsz, hr⟩ := hw (1, [errV]) (by simp [lq])
    have h0 : 0 < C.size := by rw [hsz]; exact Nat.succ_pos _
    obtain ⟨te, pe, hev⟩ := errV_inv (hr.2 0 errV C[0] rfl (by rw [Array.getElem?_toList, Array.getElem?_eq_getElem h0]))
    have hC' : w.heap[1]? = some (.cells C e fz) := hC
    have hcell : w.cell? ⟨1, 0, none⟩ = some C[0] := by
      simp only [World.cell?, hC']
      simp [Array.getElem?_eq_getElem h0]
    refine (Any.strconv_ParseUint_10_at64_range puLay s (by have : s.size = s.data.toList.length := rfl
                                                            omega) h1 C[0] w hcell (.inr ⟨te, pe, hev⟩)).mono ?_
    rintro e' w' ⟨N, rfl, hN, hat, hb⟩
    refine ⟨_, rfl, hb, ?_⟩
    refine .tuple _ _ rfl fun i x y hx hy => ?_
    match i with
    | 0 => cases hx; cases hy; exact .plain _ rfl
    | 1 =>
      cases hx; cases hy
      exact .iface _ _ _ rfl (.gptr 0 [] N 0 _ (muS_some.2 ⟨.inr hN, _, _, hat⟩) (Nat.zero_le _) (fun j x y hx => by simp at hx))
    | i + 2 => cases hx
  · cases h
/-- The signs, the longer ones first. -/
def sgns : List (List UInt8) := [[61, 61], [33, 61], [60, 61], [62, 61], [60, 60], [62, 62], [38, 38], [124, 124], [40], [41], [123], [125], [91], [93], [44], [59], [46], [61], [60], [62], [43], [45], [42], [47], [37], [38], [124], [94], [33], [58]]
abbrev wd (k : Int) (t : List UInt8) : Value := .agg ⟨[iv k, st t, iv 0]⟩
noncomputable def sgT (s : List UInt8) : List (List UInt8) → Option Value
  | [] => some (wd 0 [])
  | x :: r => bif tE then bif x.isPrefixOf s then some (wd 4 x) else sgT s r else none
def sgF (s : List UInt8) : List (List UInt8) → Nat × List UInt8
  | [] => (0, [])
  | x :: r => bif x.isPrefixOf s then (4, x) else sgF s r
def wdV (p : Nat × List UInt8) : Value := wd (p.1 : Nat) p.2
theorem sgT_eq (s : List UInt8) : ∀ l, sgT s l = some (wdV (sgF s l))
  | [] => rfl
  | x :: r => by
    unfold sgT sgF
    rw [tE_t]
    cases x.isPrefixOf s
    · exact sgT_eq s r
    · rfl
def numOk : Lib.NumEnd Nat → Bool
  | .ok u => decide (u ≤ 4611686018427387903)
  | _ => false
def numB (t : List UInt8) : Bool := numOk (Lib.parseUintB 64 t)
/-- A text's first word: its kind, its text. -/
def wordF : List UInt8 → Nat × List UInt8
  | [] => (0, [])
  | c :: r => bif letB (c.toNat : Int) then (if 64 < whN namB (c :: r) then (0, []) else (bif keptB ((c :: r).take (whN namB (c :: r))) then 2 else 1, (c :: r).take (whN namB (c :: r))))
    else bif digB (c.toNat : Int) then (bif numB ((c :: r).take (whN digB (c :: r))) then (3, (c :: r).take (whN digB (c :: r))) else (0, []))
    else sgF (c :: r) sgns
theorem wordF_cons (c : UInt8) (r : List UInt8) : wordF (c :: r) = bif letB (c.toNat : Int) then (if 64 < whN namB (c :: r) then (0, []) else (bif keptB ((c :: r).take (whN namB (c :: r))) then 2 else 1, (c :: r).take (whN namB (c :: r))))
    else bif digB (c.toNat : Int) then (bif numB ((c :: r).take (whN digB (c :: r))) then (3, (c :: r).take (whN digB (c :: r))) else (0, []))
    else sgF (c :: r) sgns := rfl
theorem whN_all (p : Int → Bool) : ∀ (l : List UInt8), ∀ b ∈ l.take (whN p l), p (b.toNat : Int) = true
  | [], b, hb => by simp at hb
  | c :: r, b, hb => by
    unfold whN at hb
    cases hc : p (c.toNat : Int) with
    | false => rw [hc] at hb; simp at hb
    | true =>
      rw [hc, cond_true, List.take_succ_cons] at hb
      rcases List.mem_cons.1 hb with rfl | hb
      · exact hc
      · exact whN_all p r b hb
theorem pm_digits (M : Nat) : ∀ (l : List UInt8) (acc : Nat), (∀ b ∈ l, digB (b.toNat : Int) = true) → Lib.parseUintM M acc l ≠ .«syntax»
  | [], acc, _ => by simp [Lib.parseUintM]
  | c :: r, acc, h => by
    have hc := h c (by simp)
    unfold digB at hc
    rw [Bool.and_eq_true, decide_eq_true_eq, decide_eq_true_eq] at hc
    unfold Lib.parseUintM
    rw [if_pos (by omega)]
    split
    · simp
    · split
      · simp
      · exact pm_digits M r _ fun b hb => h b (by simp [hb])
noncomputable abbrev RWd (F : TabF) (s : List UInt8) := RF F [33] (lkIt Tryd.prog (glV lq) (qA F [33]) (qK F [33]) noLK 40) Tryd.f21 [st s]
noncomputable abbrev FOk (u : Nat) : TabF := andG 32 (puOk u) F3
noncomputable abbrev FNo : TabF := andG 32 puNo F3
theorem FOk_ok (u : Nat) : TabQ Tryd.prog lq (FOk u) := andQ_ok Tryd.func32 rfl (by kernel_rfl) (fun ar v h => puOk_con h) F3_ok
theorem FNo_ok : TabQ Tryd.prog lq FNo := andQ_ok Tryd.func32 rfl (by kernel_rfl) (fun ar v h => puNo_con h) F3_ok
abbrev wTake (p : Int → Bool) (s : List UInt8) : List UInt8 := List.take (Int.toNat (whN p s : Nat)) s
noncomputable abbrev wName (s : List UInt8) (x : Option Value) : Option Value := bif Nat.ble (Int.toNat 0 + 1) s.length then bif tE then bif letB (byteAt s (Int.toNat 0)) then bif tE then bif tst (s.length ≤ 100000) then bif Nat.ble (Int.toNat (whN namB s : Nat)) s.length then bif tE then bif keptB (wTake namB s) then (bif decide (((wTake namB s).length : Int) > 64) then some (wd 0 []) else some (wd 2 (wTake namB s))) else (bif decide (((wTake namB s).length : Int) > 64) then some (wd 0 []) else some (wd 1 (wTake namB s))) else none else none else none else none else x else none else none
noncomputable abbrev wDig (s : List UInt8) (b : Option Value) : Option Value := bif Nat.ble (Int.toNat 0 + 1) s.length then bif tE then bif digB (byteAt s (Int.toNat 0)) then bif tE then bif tst (s.length ≤ 100000) then bif Nat.ble (Int.toNat (whN digB s : Nat)) s.length then bif tE then b else none else none else none else none else sgT s sgns else none else none
set_option maxRecDepth 100000 in
theorem tOk (s : List UInt8) (u : Nat) : RWd (FOk u) s = wName s (wDig s (bif tst (Lib.parseUintB 64 (wTake digB s) = .ok u ∧ (wTake digB s).length ≤ 100000) then (bif decide ((u : Int) > 4611686018427387903) then some (wd 0 []) else some (wd 3 (wTake digB s))) else none)) := by kernel_rfl
set_option maxRecDepth 100000 in
theorem tNo (s : List UInt8) : RWd FNo s = wName s (wDig s (bif tst (Lib.parseUintB 64 (wTake digB s) = .range ∧ (wTake digB s).length ≤ 100000) then some (wd 0 []) else none)) := by kernel_rfl
theorem wtake_len (p : Int → Bool) (s : List UInt8) : (wTake p s).length = whN p s := by unfold wTake; rw [Int.toNat_natCast, List.length_take]; exact Nat.min_eq_left (whN_le p s)
theorem word_run {s : List UInt8} (h0 : s ≠ []) (hs : s.length ≤ 100000) : ∃ F, TabQ Tryd.prog lq F ∧ RWd F s = some (wdV (wordF s)) := by
  obtain ⟨c, r, rfl⟩ := List.exists_cons_of_ne_nil h0
  have hb : byteAt (c :: r) (Int.toNat 0) = (c.toNat : Int) := rfl
  have h1 : Nat.ble (Int.toNat 0 + 1) (c :: r).length = true := ble_t (by simp)
  have hk (p : Int → Bool) : Nat.ble (Int.toNat (whN p (c :: r) : Nat)) (c :: r).length = true := ble_t (by rw [Int.toNat_natCast]; exact whN_le p _)
  have htk (p : Int → Bool) : wTake p (c :: r) = (c :: r).take (whN p (c :: r)) := by unfold wTake; rw [Int.toNat_natCast]
  cases hl : letB (c.toNat : Int) with
  | true =>
    refine ⟨FNo, FNo_ok, ?_⟩
    rw [tNo, wName, h1, tE_t, hb, hl, tst_of hs, hk namB, wtake_len, htk]
    simp only [cond_true]
    rw [wordF_cons, hl, cond_true]
    by_cases h64 : 64 < whN namB (c :: r)
    · rw [if_pos h64, decide_eq_true (show ((whN namB (c :: r) : Nat) : Int) > 64 by omega)]
      cases keptB _ <;> rfl
    · rw [if_neg h64, decide_eq_false (show ¬ ((whN namB (c :: r) : Nat) : Int) > 64 by omega)]
      cases keptB _ <;> rfl
  | false =>
    cases hd : digB (c.toNat : Int) with
    | false =>
      refine ⟨FNo, FNo_ok, ?_⟩
      rw [tNo, wName, wDig, h1, tE_t, hb, hl, hd]
      simp only [cond_true, cond_false]
      rw [sgT_eq]
      rw [wordF_cons, hl, hd]; rfl
    | true =>
      have hlen : (wTake digB (c :: r)).length ≤ 100000 := by rw [wtake_len]; exact Nat.le_trans (whN_le _ _) hs
      have hns : Lib.parseUintB 64 (wTake digB (c :: r)) ≠ .«syntax» := by
        unfold Lib.parseUintB
        rw [if_neg (by
          intro e
          have := congrArg List.length e
          rw [wtake_len] at this
          unfold whN at this
          rw [hd] at this
          simp at this)]
        rw [htk]
        exact pm_digits _ _ _ (whN_all digB _)
      have hw : wordF (c :: r) = bif numB (wTake digB (c :: r)) then (3, wTake digB (c :: r)) else (0, []) := by
        rw [htk]; rw [wordF_cons, hl, hd]; rfl
      cases hu : Lib.parseUintB 64 (wTake digB (c :: r)) with
      | «syntax» => exact absurd hu hns
      | range =>
        refine ⟨FNo, FNo_ok, ?_⟩
        rw [tNo, wName, wDig, h1, tE_t, hb, hl, hd, tst_of hs, hk digB, tst_of ⟨hu, hlen⟩, hw, numB, hu]; rfl
      | ok u =>
        refine ⟨FOk u, FOk_ok u, ?_⟩
        rw [tOk, wName, wDig, h1, tE_t, hb, hl, hd, tst_of hs, hk digB, tst_of ⟨hu, hlen⟩, hw, numB, hu]
        simp only [cond_true, cond_false, numOk]
        by_cases hle : u ≤ 4611686018427387903
        · rw [decide_eq_true hle, decide_eq_false (by omega)]; rfl
        · rw [decide_eq_false hle, decide_eq_true (by omega)]; rfl
noncomputable def wdE (ar : List Value) : Option (Bool × Value) := match ar with
  | [.string s] => some (tst (s.data.toList ≠ [] ∧ s.data.toList.length ≤ 100000), wdV (wordF s.data.toList))
  | _ => none
noncomputable def F4 : TabF := andG 21 wdE F3
theorem F4_ok : TabQ Tryd.prog lq F4 := andQ_ok Tryd.func21 rfl (by kernel_rfl) (fun ar v h => by
  unfold wdE at h
  split at h
  · rename_i s
    obtain ⟨⟨s⟩⟩ := s
    obtain ⟨ht, rfl⟩ := Prod.mk.inj (Option.some.inj h)
    obtain ⟨h0, hs⟩ := of_tst ht
    obtain ⟨F, hF, hr⟩ := word_run h0 hs
    exact conIt hF [33] 40 Tryd.func21 rfl (by kernel_rfl) (by kernel_rfl) hr
  · cases h) F3_ok
theorem isPre_take {p s : List UInt8} (h : p.isPrefixOf s = true) : s.take p.length = p := by
  obtain ⟨r, rfl⟩ := List.isPrefixOf_iff_prefix.1 h
  exact List.take_left
theorem isPre_len {p s : List UInt8} (h : p.isPrefixOf s = true) : p.length ≤ s.length := by
  obtain ⟨r, rfl⟩ := List.isPrefixOf_iff_prefix.1 h
  simp
theorem sgF_ok (s : List UInt8) : ∀ l : List (List UInt8), (∀ x ∈ l, x ≠ []) → (sgF s l).1 = 0 ∨ ((sgF s l).1 = 4 ∧ (sgF s l).2 ∈ l ∧ (sgF s l).2.isPrefixOf s = true)
  | [], _ => .inl rfl
  | x :: r, h => by
    unfold sgF
    cases hx : x.isPrefixOf s with
    | true => exact .inr ⟨rfl, by simp, hx⟩
    | false =>
      rcases sgF_ok s r (fun y hy => h y (by simp [hy])) with h1 | ⟨h1, h2, h3⟩
      · exact .inl h1
      · exact .inr ⟨h1, by simp [h2], h3⟩
theorem sgns_ne : ∀ x ∈ sgns, x ≠ [] := by decide
/-- A word has letters, and it stands where the text begins. -/
theorem wordF_ok {s : List UInt8} (h : (wordF s).1 ≠ 0) : 0 < (wordF s).2.length ∧ (wordF s).2.length ≤ s.length ∧ s.take (wordF s).2.length = (wordF s).2 := by
  cases s with
  | nil => exact absurd rfl h
  | cons c r =>
    have tk (p : Int → Bool) (hp : p (c.toNat : Int) = true) : 0 < ((c :: r).take (whN p (c :: r))).length ∧ ((c :: r).take (whN p (c :: r))).length ≤ (c :: r).length ∧ (c :: r).take ((c :: r).take (whN p (c :: r))).length = (c :: r).take (whN p (c :: r)) := by
      have h1 := whN_le p (c :: r)
      have h2 : ((c :: r).take (whN p (c :: r))).length = whN p (c :: r) := by rw [List.length_take]; exact Nat.min_eq_left h1
      rw [h2]
      refine ⟨?_, h1, rfl⟩
      unfold whN; rw [hp]; exact Nat.succ_pos _
    rw [wordF_cons] at h ⊢
    cases hl : letB (c.toNat : Int) with
    | true =>
      rw [hl, cond_true] at h
      rw [cond_true]
      split at h
      · exact absurd rfl h
      · rename_i h64
        rw [if_neg h64]
        exact tk namB (by unfold namB; rw [hl]; rfl)
    | false =>
      rw [hl, cond_false] at h
      rw [cond_false]
      cases hd : digB (c.toNat : Int) with
      | true =>
        rw [hd, cond_true] at h
        rw [cond_true]
        cases hn : numB ((c :: r).take (whN digB (c :: r))) with
        | false => rw [hn] at h; exact absurd rfl h
        | true => exact tk digB hd
      | false =>
        rw [hd, cond_false] at h
        rw [cond_false]
        rcases sgF_ok (c :: r) sgns sgns_ne with h1 | ⟨h1, h2, h3⟩
        · exact absurd h1 h
        · exact ⟨List.length_pos_iff.2 (sgns_ne _ h2), isPre_len h3, isPre_take h3⟩
/-- A word: its kind, its text, where it stands. -/
abbrev Wd := Nat × List UInt8 × Nat
abbrev wAt (s : List UInt8) (a : Nat) : Nat × List UInt8 := wordF (s.drop a)
/-- Behind the word that stands at a. -/
def nxt (s : List UInt8) (a : Nat) : Nat := a + (wAt s a).2.length + bl false (s.drop (a + (wAt s a).2.length))
def cutG (s : List UInt8) : Nat → Nat → List Wd → List Wd × Option Nat
  | 0, _, ws => (ws, none)
  | f + 1, a, ws => if s.length ≤ a then (ws, none) else if (wAt s a).1 = 0 then (ws, some a) else cutG s f (nxt s a) (ws ++ [((wAt s a).1, (wAt s a).2, a)])
theorem nxt_gt {s : List UInt8} {a : Nat} (h : (wAt s a).1 ≠ 0) : a < nxt s a := by
  have : 0 < (wAt s a).2.length := (wordF_ok h).1
  unfold nxt; omega
theorem nxt_le {s : List UInt8} {a : Nat} (ha : a ≤ s.length) (h : (wAt s a).1 ≠ 0) : a + (wAt s a).2.length ≤ s.length ∧ nxt s a ≤ s.length := by
  have h1 : (wAt s a).2.length ≤ (s.drop a).length := (wordF_ok h).2.1
  rw [List.length_drop] at h1
  have h2 := bl_le (s.drop (a + (wAt s a).2.length)) false
  rw [List.length_drop] at h2
  unfold nxt; omega
theorem cutG_fuel (s : List UInt8) : ∀ (f g a : Nat) (ws : List Wd), s.length - a ≤ f → s.length - a ≤ g → cutG s f a ws = cutG s g a ws := by
  intro f
  induction f with
  | zero =>
    intro g a ws h1 h2
    cases g with
    | zero => rfl
    | succ g => unfold cutG; rw [if_pos (by omega)]
  | succ f ih =>
    intro g a ws h1 h2
    cases g with
    | zero => unfold cutG; rw [if_pos (by omega)]
    | succ g =>
      unfold cutG
      by_cases hl : s.length ≤ a
      · rw [if_pos hl, if_pos hl]
      · rw [if_neg hl, if_neg hl]
        by_cases h0 : (wAt s a).1 = 0
        · rw [if_pos h0, if_pos h0]
        · rw [if_neg h0, if_neg h0]
          have := nxt_gt h0
          exact ih g _ _ (by omega) (by omega)
/-- A text's words from a on, behind those that are known; where it fails. -/
def cut (s : List UInt8) (a : Nat) (ws : List Wd) : List Wd × Option Nat := cutG s (s.length - a) a ws
theorem cut_end {s : List UInt8} {a : Nat} (h : s.length ≤ a) (ws : List Wd) : cut s a ws = (ws, none) := by
  unfold cut; rw [show s.length - a = 0 by omega]; rfl
theorem cut_bad {s : List UInt8} {a : Nat} (h : a < s.length) (h0 : (wAt s a).1 = 0) (ws : List Wd) : cut s a ws = (ws, some a) := by
  unfold cut; rw [show s.length - a = (s.length - a - 1) + 1 by omega]
  unfold cutG; rw [if_neg (by omega), if_pos h0]
theorem cut_step {s : List UInt8} {a : Nat} (h : a < s.length) (h0 : (wAt s a).1 ≠ 0) (ws : List Wd) : cut s a ws = cut s (nxt s a) (ws ++ [((wAt s a).1, (wAt s a).2, a)]) := by
  have := nxt_gt h0
  conv => lhs; unfold cut; rw [show s.length - a = (s.length - a - 1) + 1 by omega]; unfold cutG
  rw [if_neg (by omega), if_neg h0]
  exact cutG_fuel s _ _ _ _ (by omega) (by omega)
/-- Words as cells. -/
def wCs : List Wd → List Value
  | [] => []
  | w :: r => iv (w.1 : Nat) :: st w.2.1 :: iv (w.2.2 : Nat) :: wCs r
theorem wCs_app : ∀ (a b : List Wd), wCs (a ++ b) = wCs a ++ wCs b
  | [], b => rfl
  | w :: r, b => by show _ :: _ :: _ :: wCs (r ++ b) = _; rw [wCs_app r b]; rfl
theorem wCs_len : ∀ a : List Wd, (wCs a).length = a.length * 3
  | [] => rfl
  | w :: r => by show (wCs r).length + 1 + 1 + 1 = (r.length + 1) * 3; rw [wCs_len r]; omega
theorem wCs_plain : ∀ (a : List Wd), ∀ v ∈ wCs a, plain1 v = true
  | [], v, h => by cases h
  | w :: r, v, h => by
    rcases List.mem_cons.1 h with rfl | h
    · rfl
    · rcases List.mem_cons.1 h with rfl | h
      · rfl
      · rcases List.mem_cons.1 h with rfl | h
        · rfl
        · exact wCs_plain r v h
abbrev nilV : Value := .slice none 0 0
abbrev ownV (m : Nat) : Value := .slice (some ⟨1, 0, none⟩) m 1
abbrev tsC : List Nat := [0, 2, 3, 4, 5, 6]
/-- The loop's state. -/
def stC (s : List UInt8) (ws : List Wd) (a : Nat) : St := match ws with
  | [] => stT tsC [st s, nilV, iv 0, iv 0, nilV, iv (a : Nat)] 48 (hV lq)
  | w :: r => stT tsC [st s, nilV, iv 0, iv 0, ownV (w :: r).length, iv (a : Nat)] 48 (mkHV lq [.row false 3 (wCs (w :: r))])
def outC (s : List UInt8) : List Wd × Option Nat → XA × St
  | (ws, none) => (.exit 0, stC s ws s.length)
  | (_, some n) => (.ret, stT [0, 2, 3, 4] [st s, nilV, iv (n : Nat), iv 6] 48 (hV lq))
noncomputable abbrev RC (ids : List Nat) (L : Value) (s : List UInt8) (n : Int) (h : AH) := RQ Tryd.prog lq (qA F4 []) (qK F4 []) noLK Tryd.f12 0 tsC ids [st s, nilV, iv 0, iv 0, L, iv n] h
abbrev sl (s : List UInt8) (n : Int) : List UInt8 := List.take (s.length - Int.toNat n) (List.drop (Int.toNat n) s)
abbrev n2 (s : List UInt8) (n : Int) : Int := IntKind.wrap IntKind.i64 (n + ((wordF (sl s n)).2.length : Nat))
abbrev RR := Option (XA × List Value × List Blk × Nat)
noncomputable abbrev cHead (s : List UInt8) (n : Int) (bad go done : RR) : RR := bif decide (n < (s.length : Int)) then bif decide (0 ≤ n) then bif Nat.ble (Int.toNat n) s.length then bif Nat.ble s.length s.length then bif tE then bif tst (sl s n ≠ [] ∧ (sl s n).length ≤ 100000) then bif ((wordF (sl s n)).1 : Int) == 0 then bad else go else none else none else none else none else none else done
noncomputable abbrev cTail (s : List UInt8) (n : Int) (x : RR) : RR := bif decide (0 ≤ n2 s n) then bif Nat.ble (Int.toNat (n2 s n)) s.length then bif Nat.ble s.length s.length then bif tE then bif tst ((sl s (n2 s n)).length ≤ 100000) then x else none else none else none else none else none
noncomputable abbrev cRow (m : Nat) (cs : List Value) (x : RR) : RR := bif Nat.ble (m + 1) 4294967296 then bif Nat.ble (0 + m * 3) cs.length then bif Nat.beq (0 + m * 3) cs.length then x else none else none else none
abbrev n3 (s : List UInt8) (n : Int) : Int := IntKind.wrap IntKind.i64 (n2 s n + (bl false (sl s (n2 s n)) : Nat))
theorem tA3 (s : List UInt8) (n : Int) : RC [3] nilV s n (hV lq) = cHead s n none (cTail s n (some (.normal, [st s, nilV, iv 0, iv 0, .slice (some ⟨3, 0, none⟩) 1 1, iv (n3 s n)], [.row false 3 [iv ((wordF (sl s n)).1 : Nat), st (wordF (sl s n)).2, iv n]], 48))) none := by kernel_rfl
theorem tA0 (s : List UInt8) (n : Int) : RC [] nilV s n (hV lq) = cHead s n (some (.ret, [st s, nilV, iv n, iv 6, nilV, iv n], [], 48)) (cTail s n (some (.normal, [st s, nilV, iv 0, iv 0, .slice (some ⟨3, 0, none⟩) 1 1, iv (n3 s n)], [], 48))) (some (.exit 0, [st s, nilV, iv 0, iv 0, nilV, iv n], [], 48)) := by kernel_rfl
theorem tB4 (s : List UInt8) (m : Nat) (n : Int) (cs : List Value) : RC [4] (ownV m) s n (mkHV lq [.row false 3 cs]) = cHead s n none (cRow m cs (cTail s n (some (.normal, [st s, nilV, iv 0, iv 0, .slice (some ⟨4, 0, none⟩) (m + 1) 1, iv (n3 s n)], [.row false 3 (List.take (m * 3) cs ++ [iv ((wordF (sl s n)).1 : Nat), st (wordF (sl s n)).2, iv n])], 48)))) none := by kernel_rfl
theorem tB1 (s : List UInt8) (m : Nat) (n : Int) (cs : List Value) : RC [1] (ownV m) s n (mkHV lq [.row false 3 cs]) = cHead s n (some (.ret, [st s, nilV, iv n, iv 6, ownV m, iv n], [.row false 3 cs], 48)) (cRow m cs (cTail s n none)) (some (.exit 0, [st s, nilV, iv 0, iv 0, ownV m, iv n], [.row false 3 cs], 48)) := by kernel_rfl
theorem sl_nat {s : List UInt8} {a : Nat} : sl s (a : Int) = s.drop a := by unfold sl; rw [Int.toNat_natCast]; exact slice_from
theorem cHead_go {s : List UInt8} {a : Nat} (hs : s.length ≤ 16384) (h : a < s.length) (h0 : (wAt s a).1 ≠ 0) (b g d : RR) : cHead s (a : Int) b g d = g := by
  have hne : s.drop a ≠ [] := by intro e; have := congrArg List.length e; rw [List.length_drop] at this; simp at this; omega
  unfold cHead
  rw [sl_nat, decide_eq_true (show (a : Int) < (s.length : Int) by omega), decide_eq_true (show (0 : Int) ≤ a by omega), Int.toNat_natCast, ble_t (show a ≤ s.length by omega), ble_t (Nat.le_refl s.length), tE_t, tst_of ⟨hne, by rw [List.length_drop]; omega⟩]
  have : (((wordF (s.drop a)).1 : Int) == 0) = false := by rw [beq_eq_false_iff_ne]; have h00 : (wordF (s.drop a)).1 ≠ 0 := h0; omega
  rw [this]; rfl
theorem cHead_bad {s : List UInt8} {a : Nat} (hs : s.length ≤ 16384) (h : a < s.length) (h0 : (wAt s a).1 = 0) (b g d : RR) : cHead s (a : Int) b g d = b := by
  have hne : s.drop a ≠ [] := by intro e; have := congrArg List.length e; rw [List.length_drop] at this; simp at this; omega
  unfold cHead
  rw [sl_nat, decide_eq_true (show (a : Int) < (s.length : Int) by omega), decide_eq_true (show (0 : Int) ≤ a by omega), Int.toNat_natCast, ble_t (show a ≤ s.length by omega), ble_t (Nat.le_refl s.length), tE_t, tst_of ⟨hne, by rw [List.length_drop]; omega⟩]
  have : (((wordF (s.drop a)).1 : Int) == 0) = true := by have h00 : (wordF (s.drop a)).1 = 0 := h0; rw [h00]; rfl
  rw [this]; rfl
theorem cHead_done {s : List UInt8} (b g d : RR) : cHead s (s.length : Nat) b g d = d := by
  unfold cHead; rw [decide_eq_false (Int.lt_irrefl _)]; rfl
theorem n2_eq {s : List UInt8} {a : Nat} (hs : s.length ≤ 16384) (h : a < s.length) (h0 : (wAt s a).1 ≠ 0) : n2 s (a : Int) = ((a + (wAt s a).2.length : Nat) : Int) := by
  have := (nxt_le (Nat.le_of_lt h) h0).1
  unfold n2; rw [sl_nat, i64w]
  have e : (wAt s a).2.length = (wordF (s.drop a)).2.length := rfl
  rw [e] at this ⊢; omega
theorem cTail_go {s : List UInt8} {a : Nat} (hs : s.length ≤ 16384) (h : a < s.length) (h0 : (wAt s a).1 ≠ 0) (x : RR) : cTail s (a : Int) x = x := by
  have h1 := (nxt_le (Nat.le_of_lt h) h0).1
  unfold cTail
  rw [n2_eq hs h h0, sl_nat, decide_eq_true (by omega), Int.toNat_natCast, ble_t h1, ble_t (Nat.le_refl s.length), tE_t, tst_of (by rw [List.length_drop]; omega)]; rfl
theorem n3_eq {s : List UInt8} {a : Nat} (hs : s.length ≤ 16384) (h : a < s.length) (h0 : (wAt s a).1 ≠ 0) : n3 s (a : Int) = (nxt s a : Nat) := by
  have h1 := (nxt_le (Nat.le_of_lt h) h0).2
  unfold n3; rw [n2_eq hs h h0, sl_nat, i64w]
  unfold nxt at h1 ⊢
  omega
theorem cRow_go {ws : List Wd} (h : ws.length ≤ 16384) (x : RR) : cRow ws.length (wCs ws) x = x := by
  unfold cRow
  rw [ble_t (by omega), ble_t (by rw [wCs_len]; omega), beq_t (by rw [wCs_len]; omega)]; rfl
noncomputable abbrev CBq (σ : St) := codeB Tryd.prog (glV lq) (regF Tryd.prog (glV lq)) (qA F4 []) noLO (loopN Tryd.f12 0) σ
theorem RC_some {ids : List Nat} {L : Value} {s : List UInt8} {n : Int} {h : AH} {y : XA} {us : List Value} {bs : List Blk} {k : Nat} (hr : RC ids L s n h = some (y, us, bs, k)) :
    ∃ σ1, CBq (stT tsC [st s, nilV, iv 0, iv 0, L, iv n] 48 h) = some (y, σ1) ∧ picks tsC σ1.T = some us ∧ picksH ids σ1.h = some bs ∧ σ1.n = k ∧ σ1.ds = [] := finHG_some (qK_ok F4 []) noLK_ok hr
/-- The row behind one more word. -/
theorem cov_row {s : List UInt8} {ws : List Wd} (hne : ws ≠ []) {a m k : Nat} {σ1 : St} (hk : 1 ≤ k) (hm : m = ws.length) (hp : picks tsC σ1.T = some [st s, nilV, iv 0, iv 0, .slice (some ⟨k, 0, none⟩) m 1, iv (a : Nat)]) (hb : picksH [k] σ1.h = some [.row false 3 (wCs ws)]) (hn : σ1.n = 48) (hd : σ1.ds = []) : Covers (glV lq) (hV lq) (stC s ws a) σ1 := by
  obtain ⟨w, r, rfl⟩ := List.exists_cons_of_ne_nil hne
  subst hm
  refine covers_HV lq_g (ids := [k]) (dl := [0]) hn hd hp hb rfl ?_ ?_ (by simp) (fun i hi => by rw [List.mem_singleton.1 hi]; exact hk) ?_
  · refine .cons (.plain _ rfl) (.cons (.plain _ rfl) (.cons (.plain _ rfl) (.cons (.plain _ rfl) (.cons ?_ (.cons (.plain _ rfl) .nil)))))
    exact .slc 1 0 0 _ 1 (show 1 < 1 + 1 by decide) rfl
  · intro j b b1 h0 h1
    match j with
    | 0 => cases h0; cases h1; exact ⟨rfl, rfl, Nat.zero_le _, RenL.plain (wCs_plain _)⟩
    | j + 1 => cases h0
  · intro b hb
    rw [List.mem_singleton.1 hb]; rfl
theorem cov_none {ts ts' : List Nat} {vs us : List Value} {σ1 : St} (hpl : ∀ v ∈ vs, plain1 v = true) (hp : picks ts σ1.T = some vs) (hn : σ1.n = 48) (hd : σ1.ds = []) : Covers (glV lq) (hV lq) (stT ts vs 48 (hV lq)) σ1 :=
  covers_HV (bs1 := []) (bs2 := []) lq_g (ids := []) (dl := []) hn hd hp rfl rfl (RenL.plain hpl) (fun i b b1 h => by simp at h) (by simp) (fun i hi => by cases hi) (fun b hb => by cases hb)
theorem picks_take : ∀ (ts : List Nat) (T : Tr Value) (us : List Value) (k : Nat), picks ts T = some us → picks (ts.take k) T = some (us.take k)
  | [], T, us, k, h => by cases h; simp [picks]
  | t :: ts, T, us, 0, h => rfl
  | t :: ts, T, us, k + 1, h => by
    unfold picks at h
    split at h
    · rename_i v hv
      split at h
      · rename_i vs hvs
        cases h
        rw [List.take_succ_cons, List.take_succ_cons]
        unfold picks
        rw [hv, picks_take ts T vs k hvs]
      · cases h
    · cases h
theorem picks_ret {T : Tr Value} {s : List UInt8} {a b c d e : Value} (h : picks tsC T = some [st s, a, b, c, d, e]) : picks [0, 2, 3, 4] T = some [st s, a, b, c] := picks_take tsC T _ 4 h
theorem cut_loop {s : List UInt8} (hs : s.length ≤ 16384) : LoopTri Tryd.prog (glV lq) (hV lq) (loopN Tryd.f12 0) (stC s [] (bl false s)) (outC s (cut s (bl false s) [])).1 (outC s (cut s (bl false s) [])).2 := by
  have hb := bl_le s false
  refine loop_rule (P := Tryd.prog) (X := {p : Nat × List Wd // p.1 ≤ s.length ∧ p.2.length ≤ p.1}) (regF_ok hmix) (qA_ok F4_ok []) noLO_ok (c := loopN Tryd.f12 0) (hE := hV lq) (fun p => stC s p.1.2 p.1.1) (fun p => s.length - p.1.1) (fun p => outC s (cut s p.1.1 p.1.2)) ?_ ⟨(bl false s, []), hb, Nat.zero_le _⟩
  rintro ⟨⟨a, ws⟩, ha, hw⟩
  dsimp only at ha hw ⊢
  by_cases hlt : a < s.length
  · by_cases h0 : (wAt s a).1 = 0
    · -- it fails here
      rw [cut_bad hlt h0]
      cases ws with
      | nil =>
        have h := tA0 s (a : Nat)
        rw [cHead_bad hs hlt h0] at h
        obtain ⟨σ1, g1, g2, g3, g4, g5⟩ := RC_some h
        exact ⟨.ret, σ1, g1, .inr ⟨by simp, rfl, cov_none (ts' := []) (us := []) (by simp [plain1]) (picks_ret g2) g4 g5⟩⟩
      | cons w r =>
        have h := tB1 s (w :: r).length (a : Nat) (wCs (w :: r))
        rw [cHead_bad hs hlt h0] at h
        obtain ⟨σ1, g1, g2, g3, g4, g5⟩ := RC_some h
        exact ⟨.ret, σ1, g1, .inr ⟨by simp, rfl, cov_none (ts' := []) (us := []) (by simp [plain1]) (picks_ret g2) g4 g5⟩⟩
    · -- one word more
      have k1 := nxt_gt h0
      have k2 := (nxt_le ha h0).2
      have hsl : wordF (sl s (a : Int)) = wAt s a := by rw [sl_nat]
      refine ⟨.normal, ?_⟩
      cases ws with
      | nil =>
        have h := tA3 s (a : Nat)
        rw [cHead_go hs hlt h0, cTail_go hs hlt h0, n3_eq hs hlt h0, hsl] at h
        obtain ⟨σ1, g1, g2, g3, g4, g5⟩ := RC_some h
        refine ⟨σ1, g1, .inl ⟨rfl, ⟨(nxt s a, [((wAt s a).1, (wAt s a).2, a)]), k2, by simp; omega⟩, by dsimp only; omega, ?_, ?_⟩⟩
        · dsimp only; rw [cut_step hlt h0]; rfl
        · exact cov_row (by simp) (k := 3) (by decide) rfl g2 g3 g4 g5
      | cons w r =>
        have h := tB4 s (w :: r).length (a : Nat) (wCs (w :: r))
        rw [cHead_go hs hlt h0, cRow_go (by omega), cTail_go hs hlt h0, n3_eq hs hlt h0, hsl, List.take_of_length_le (by rw [wCs_len]; exact Nat.le_refl _)] at h
        obtain ⟨σ1, g1, g2, g3, g4, g5⟩ := RC_some h
        refine ⟨σ1, g1, .inl ⟨rfl, ⟨(nxt s a, (w :: r) ++ [((wAt s a).1, (wAt s a).2, a)]), k2, by simp only [List.length_append, List.length_singleton]; omega⟩, by dsimp only; omega, ?_, ?_⟩⟩
        · dsimp only; rw [cut_step hlt h0]
        · refine cov_row (by simp) (k := 4) (by decide) (by simp) g2 ?_ g4 g5
          rw [wCs_app]; exact g3
  · obtain rfl : a = s.length := by omega
    rw [cut_end (Nat.le_refl _)]
    cases ws with
    | nil =>
      have h := tA0 s (s.length : Nat)
      rw [cHead_done] at h
      obtain ⟨σ1, g1, g2, g3, g4, g5⟩ := RC_some h
      exact ⟨.exit 0, σ1, g1, .inr ⟨by simp, rfl, cov_none (ts' := []) (us := []) (by simp [plain1]) g2 g4 g5⟩⟩
    | cons w r =>
      have h := tB1 s (w :: r).length (s.length : Nat) (wCs (w :: r))
      rw [cHead_done] at h
      obtain ⟨σ1, g1, g2, g3, g4, g5⟩ := RC_some h
      exact ⟨.exit 0, σ1, g1, .inr ⟨by simp, rfl, cov_row (by simp) (k := 1) (by decide) rfl g2 g3 g4 g5⟩⟩
/-- All of a text's words. -/
def cutAll (s : List UInt8) : List Wd × Option Nat := cut s (bl false s) []
def endW (s : List UInt8) (ws : List Wd) : List Wd := ws ++ [(0, [], s.length)]
abbrev okV (ws : List Wd) : Value := gslV ws.length 0 false (wCs ws)
def cutV (s : List UInt8) : List Wd × Option Nat → Value
  | (ws, none) => .tuple ⟨[okV (endW s ws), iv 0, iv 0]⟩
  | (_, some n) => .tuple ⟨[nilV, iv (n : Nat), iv 6]⟩
noncomputable abbrev lkP (r : Nat) (ts : List Nat) (pre : List Value) (n : Nat) (x : XA) (σ : St) : LoopK Value := lkQ r ts (fun vs h z => some (tst (vs = pre ∧ h = hV lq ∧ z = n), x, σ)) noLK
noncomputable abbrev loP (r : Nat) (ts : List Nat) (pre : List Value) (n : Nat) (x : XA) (σ : St) : LoopA := loQ r ts (fun vs h z => some (tst (vs = pre ∧ h = hV lq ∧ z = n), x, σ)) noLO
theorem loP_ok {cl : List Code} {r : Nat} {ts : List Nat} {pre : List Value} {n : Nat} {x : XA} {σ : St} (h : ∀ c ∈ cl, isReg r c = true → LoopTri Tryd.prog (glV lq) (hV lq) c (stT ts pre n (hV lq)) x σ) : LoopsOK Tryd.prog (glV lq) (hV lq) (loP r ts pre n x σ) cl := by
  refine loQ_ok (fun c' hc hr τ vs x' σ' hd hp h' => ?_) noLO_ok
  simp only [Option.some.injEq, Prod.mk.injEq] at h'
  obtain ⟨ht, rfl, rfl⟩ := h'
  obtain ⟨rfl, hh, hs⟩ := of_tst ht
  exact (h c' hc hr).enter (covers_T hs (picks_mkT hp) hh.symm hd.symm)
abbrev preC (s : List UInt8) : List Value := [st s, nilV, iv 0, iv 0, nilV, iv (bl false s : Nat)]
noncomputable abbrev RCu (x : XA) (σ : St) (s : List UInt8) := RF F4 [] (lkP 5 tsC (preC s) 48 x σ) Tryd.f12 [st s]
abbrev big (s : List UInt8) (x : Option Value) : Option Value := bif decide ((s.length : Int) > 16384) then some (.tuple ⟨[nilV, iv 0, iv 2]⟩) else x
noncomputable abbrev preT (s : List UInt8) (x : Option Value) : Option Value := big s (bif tE then bif tst (s.length ≤ 100000) then bif tst (preC s = preC s ∧ hV lq = hV lq ∧ 48 = 48) then x else none else none else none)
noncomputable abbrev gvT (cs : List Value) (x : Option Value) : Option Value := bif tst (∀ v ∈ cs, GVal v) then x else none
theorem ta (s : List UInt8) (a : Int) : RCu (.exit 0) (stT tsC [st s, nilV, iv 0, iv 0, nilV, iv a] 48 (hV lq)) s = preT s (gvT [iv 0, st [], iv (s.length : Nat)] (some (.tuple ⟨[gslV 1 0 false [iv 0, st [], iv (s.length : Nat)], iv 0, iv 0]⟩))) := by kernel_rfl
theorem tb (s : List UInt8) (a : Int) (m : Nat) (cs : List Value) : RCu (.exit 0) (stT tsC [st s, nilV, iv 0, iv 0, ownV m, iv a] 48 (mkHV lq [.row false 3 cs])) s = preT s (bif Nat.ble (m + 1) 4294967296 then bif Nat.ble (0 + m * 3) cs.length then bif Nat.beq (0 + m * 3) cs.length then gvT (List.take (m * 3) cs ++ [iv 0, st [], iv (s.length : Nat)]) (some (.tuple ⟨[gslV (m + 1) 0 false (List.take (m * 3) cs ++ [iv 0, st [], iv (s.length : Nat)]), iv 0, iv 0]⟩)) else none else none else none) := by kernel_rfl
theorem tc (s : List UInt8) (a : Int) : RCu .ret (stT [0, 2, 3, 4] [st s, nilV, iv a, iv 6] 48 (hV lq)) s = preT s (some (.tuple ⟨[nilV, iv a, iv 6]⟩)) := by kernel_rfl
theorem preT_ok {s : List UInt8} (hs : s.length ≤ 16384) (x : Option Value) : preT s x = x := by
  unfold preT big
  rw [decide_eq_false (by omega), tE_t, tst_of (by omega), tst_of ⟨rfl, rfl, rfl⟩]; rfl
theorem gvT_plain {cs : List Value} (h : ∀ v ∈ cs, plain1 v = true) (x : Option Value) : gvT cs x = x := by
  unfold gvT; rw [tst_of fun v hv => .plain v (h v hv)]; rfl
theorem cut_len {s : List UInt8} : ∀ (f a : Nat) (ws : List Wd), a ≤ s.length → ws.length ≤ a → (cutG s f a ws).1.length ≤ s.length := by
  intro f
  induction f with
  | zero => intro a ws h1 h2; exact Nat.le_trans h2 h1
  | succ f ih =>
    intro a ws h1 h2
    unfold cutG
    split
    · exact Nat.le_trans h2 h1
    · split
      · exact Nat.le_trans h2 h1
      · rename_i h0
        have := nxt_gt h0
        exact ih _ _ (nxt_le h1 h0).2 (by simp only [List.length_append, List.length_singleton]; omega)
theorem cut_run {s : List UInt8} (hs : s.length ≤ 16384) : RCu (outC s (cutAll s)).1 (outC s (cutAll s)).2 s = some (cutV s (cutAll s)) := by
  have hlen : (cutAll s).1.length ≤ s.length := cut_len _ _ _ (bl_le s false) (Nat.zero_le _)
  cases hc : cutAll s with
  | mk ws o =>
  rw [hc] at hlen
  cases o with
  | some n => exact (tc s (n : Nat)).trans (preT_ok hs _)
  | none =>
    cases ws with
    | nil =>
      refine (ta s (s.length : Nat)).trans ((preT_ok hs _).trans ((gvT_plain ?_ _).trans rfl))
      intro v hv
      rcases List.mem_cons.1 hv with rfl | hv
      · rfl
      · rcases List.mem_cons.1 hv with rfl | hv
        · rfl
        · rw [List.mem_singleton.1 hv]; rfl
    | cons w r =>
      have e : List.take ((w :: r).length * 3) (wCs (w :: r)) ++ [iv 0, st [], iv (s.length : Nat)] = wCs (endW s (w :: r)) := by
        rw [List.take_of_length_le (by rw [wCs_len]; exact Nat.le_refl _), endW, wCs_app]; rfl
      have h := tb s (s.length : Nat) (w :: r).length (wCs (w :: r))
      dsimp only at hlen
      rw [preT_ok hs, ble_t (by omega), ble_t (by rw [wCs_len]; omega), beq_t (by rw [wCs_len]; omega), e, gvT_plain (wCs_plain _)] at h
      refine h.trans ?_
      show some (Value.tuple ⟨[gslV ((w :: r).length + 1) 0 false (wCs (endW s (w :: r))), iv 0, iv 0]⟩) = some (Value.tuple ⟨[gslV (endW s (w :: r)).length 0 false (wCs (endW s (w :: r))), iv 0, iv 0]⟩)
      rw [show (endW s (w :: r)).length = (w :: r).length + 1 by unfold endW; simp]
theorem loops8 : loopsOf (bodyOf Tryd.f12) = [loopN Tryd.f12 0] := by kernel_rfl
theorem cut_con {s : List UInt8} (hs : s.length ≤ 16384) : ConQ Tryd.prog lq 12 [st s] (cutV s (cutAll s)) := by
  refine conQ hmix (qA_ok F4_ok []) (qK_ok F4 []) (lkQ_ok noLK_ok) Tryd.func12 rfl (by kernel_rfl) (loP_ok (fun c hc _ => ?_)) (cut_run hs)
  rw [loops8, List.mem_singleton] at hc
  subst hc
  exact cut_loop hs
end Go.Proofs.YtachednafdmmaaaDoor.AI.Lx
