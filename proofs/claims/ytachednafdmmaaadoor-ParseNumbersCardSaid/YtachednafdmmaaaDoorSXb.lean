/- Numbers in programs. -/
import Derived.Test.YtachednafdmmaaaDoorSXa
import Derived.Test.YtachednafdmmaaaDoorAIfl
import Derived.Lib.ItoaLen
import Derived.Stop.LaidErr
import Derived.KernelRfl
namespace Go.Proofs.YtachednafdmmaaaDoor.AI
open Go Go.RowKit 
set_option linter.unusedVariables false
set_option linter.unusedSimpArgs false
abbrev WW (s : List UInt8) (a b c : Nat) : List Wd := [(2, [102, 117, 110, 99], 0), (1, [109, 97, 105, 110], 5), (4, [40], 9), (4, [41], 10), (4, [123], 12), (2, [112, 114, 105, 110, 116], 14), (3, s, 20), (4, [59], a), (4, [125], b), (0, [], c)]
def insP : List Nat := (List.range 110).filter fun i => !(Nat.beq i 12)
noncomputable abbrev pA (F : TabF) : CallA := mixA insP (callA Tryd.prog (glV lq) (regF Tryd.prog (glV lq)) 100 false) (sumQ (glV lq) lq (fun _ => 1) F)
noncomputable abbrev pK {R : Type} (F : TabF) : CK R := mixK insP (toK (callA Tryd.prog (glV lq) (regF Tryd.prog (glV lq)) 100 false)) (sumQK (glV lq) lq (fun _ => 1) F)
theorem pA_ok {F : TabF} (hF : TabQ Tryd.prog lq F) : CallOK Tryd.prog (glV lq) (pA F) := mixA_ok (callA_ok (regF_ok hmix) 100).1 (sumQ_ok lq_g _ hF)
theorem pK_ok {R : Type} (F : TabF) : CKok (R := R) (pA F) (pK F) := mixK_ok (toK_ok _) (sumQK_ok _ _ _ _)
/-- The words of a text. -/
noncomputable def cX (t : List UInt8) (W : List Wd) (ar : List Value) : Option (Bool × Value) := match ar with
  | [.string s] => some (tst (s.data.toList = t), .tuple ⟨[okV W, iv 0, iv 0]⟩)
  | _ => none
abbrev nilG : Value := gslV 0 0 false []
abbrev numC (s : List UInt8) : List Value := [st [110, 117, 109, 98, 101, 114], st s, iv 20, nilG]
abbrev prC (s : List UInt8) : List Value := [st [112, 114, 105, 110, 116], st [], iv 14, gslV 1 0 false (numC s)]
abbrev blC (s : List UInt8) : List Value := [st [98, 108, 111, 99, 107], st [], iv 12, gslV 1 0 false (prC s)]
abbrev fnC (s : List UInt8) : List Value := [st [102, 117, 110, 99], st [109, 97, 105, 110], iv 0, gslV 3 0 false ([st [112, 97, 114, 97, 109, 115], st [], iv 10, nilG, st [110, 111, 110, 101], st [], iv 12, nilG] ++ blC s)]
abbrev pgV (s : List UInt8) : Value := .agg ⟨[st [112, 114, 111, 103, 114, 97, 109], st [], iv 0, gslV 1 0 false (fnC s)]⟩
set_option maxRecDepth 100000 in
theorem tp (s t : List UInt8) (a b c : Nat) : runQ Tryd.prog lq (pA (andG 12 (cX t (WW s a b c)) noG)) (pK (andG 12 (cX t (WW s a b c)) noG)) noLK 8 Tryd.f7 [st t] = bif tE then bif tst (t = t) then some (.tuple ⟨[pgV s, iv 0, iv 0]⟩) else none else none := by kernel_rfl
abbrev preL : List UInt8 := [102, 117, 110, 99, 32, 109, 97, 105, 110, 40, 41, 32, 123, 32, 112, 114, 105, 110, 116, 32]
abbrev sufL : List UInt8 := [59, 32, 125]
/-- A program that prints one number. -/
def tT (s : List UInt8) : List UInt8 := preL ++ s ++ sufL
abbrev six : List Wd := [(2, [102, 117, 110, 99], 0), (1, [109, 97, 105, 110], 5), (4, [40], 9), (4, [41], 10), (4, [123], 12), (2, [112, 114, 105, 110, 116], 14)]
theorem tT_len (s : List UInt8) : (tT s).length = 23 + s.length := by unfold tT; simp [preL, sufL]; omega
theorem tT_20 (s : List UInt8) : (tT s).drop 20 = s ++ sufL := rfl
theorem wAt0 (s : List UInt8) : wAt (tT s) 0 = (2, [102, 117, 110, 99]) := by kernel_rfl
theorem wAt5 (s : List UInt8) : wAt (tT s) 5 = (1, [109, 97, 105, 110]) := by kernel_rfl
theorem wAt9 (s : List UInt8) : wAt (tT s) 9 = (4, [40]) := by kernel_rfl
theorem wAt10 (s : List UInt8) : wAt (tT s) 10 = (4, [41]) := by kernel_rfl
theorem wAt12 (s : List UInt8) : wAt (tT s) 12 = (4, [123]) := by kernel_rfl
theorem wAt14 (s : List UInt8) : wAt (tT s) 14 = (2, [112, 114, 105, 110, 116]) := by kernel_rfl
theorem bl0 (s : List UInt8) : bl false (tT s) = 0 := by kernel_rfl
theorem nxts (s : List UInt8) : nxt (tT s) 0 = 5 ∧ nxt (tT s) 5 = 9 ∧ nxt (tT s) 9 = 10 ∧ nxt (tT s) 10 = 12 ∧ nxt (tT s) 12 = 14 := by
  refine ⟨?_, ?_, ?_, ?_, ?_⟩ <;> kernel_rfl
theorem nxt14 (s : List UInt8) (h : bl false (s ++ sufL) = 0) : nxt (tT s) 14 = 20 := by
  show 14 + 5 + (bl false (s ++ sufL) + 1) = 20
  rw [h]
theorem dig_facts {c : UInt8} (h : digB (c.toNat : Int) = true) : blankB (c.toNat : Int) = false ∧ c ≠ 47 ∧ letB (c.toNat : Int) = false := by
  have key : ∀ n : Fin 256, digB (n.val : Int) = true → blankB (n.val : Int) = false ∧ n.val ≠ 47 ∧ letB (n.val : Int) = false := by decide +kernel
  obtain ⟨h1, h2, h3⟩ := key ⟨c.toNat, c.toNat_lt⟩ h
  exact ⟨h1, fun e => h2 (by rw [e]; rfl), h3⟩
theorem whN_dig : ∀ (x r : List UInt8), (∀ b ∈ x, digB (b.toNat : Int) = true) → whN digB (x ++ 59 :: r) = x.length
  | [], r, _ => by show (bif digB 59 then _ else 0) = 0; rw [show digB 59 = false by decide]; rfl
  | b :: x, r, h => by
    show (bif digB (b.toNat : Int) then whN digB (x ++ 59 :: r) + 1 else 0) = x.length + 1
    rw [h b (by simp), whN_dig x r (fun c hc => h c (by simp [hc]))]; rfl
theorem bl_dig {c : UInt8} (h : digB (c.toNat : Int) = true) (r : List UInt8) : bl false (c :: r) = 0 := by
  show (bif blankB (c.toNat : Int) then _ else bif [47, 47].isPrefixOf (c :: r) then _ else 0) = 0
  obtain ⟨h1, h2, _⟩ := dig_facts h
  rw [h1, cond_false]
  have : [47, 47].isPrefixOf (c :: r) = false := by
    rw [← Bool.not_eq_true]; intro g
    rw [List.isPrefixOf, Bool.and_eq_true, beq_iff_eq] at g
    exact h2 g.1.symm
  rw [this]; rfl
theorem word_dig {s : List UInt8} (hne : s ≠ []) (hd : ∀ b ∈ s, digB (b.toNat : Int) = true) : wordF (s ++ sufL) = bif numB s then (3, s) else (0, []) := by
  obtain ⟨c, r, rfl⟩ := List.exists_cons_of_ne_nil hne
  have hc := hd c (by simp)
  have hw := whN_dig (c :: r) [32, 125] hd
  show wordF (c :: (r ++ sufL)) = _
  rw [wordF_cons, (dig_facts hc).2.2, hc, cond_false, cond_true]
  have e : (c :: (r ++ sufL)).take (whN digB (c :: (r ++ sufL))) = c :: r := by
    rw [show c :: (r ++ sufL) = c :: r ++ 59 :: [32, 125] from rfl, hw]; exact List.take_left
  rw [e]
/-- The words of the program with a number that may be. -/
theorem cut_num {s : List UInt8} (hne : s ≠ []) (hd : ∀ b ∈ s, digB (b.toNat : Int) = true) (hn : numB s = true) : cutAll (tT s) = ((WW s (20 + s.length) (22 + s.length) 0).take 9, none) := by
  have hlen := tT_len s
  have hp : 0 < s.length := by cases s with
    | nil => exact absurd rfl hne
    | cons c r => simp
  have hb : bl false (s ++ sufL) = 0 := by
    obtain ⟨c, r, rfl⟩ := List.exists_cons_of_ne_nil hne
    exact bl_dig (hd c (by simp)) _
  obtain ⟨n0, n5, n9, n10, n12⟩ := nxts s
  have w20 : wAt (tT s) 20 = (3, s) := by show wordF ((tT s).drop 20) = _; rw [tT_20, word_dig hne hd, hn]; rfl
  have d21 : (tT s).drop (20 + s.length) = sufL := by rw [← List.drop_drop, tT_20, List.drop_left]
  have d23 : (tT s).drop (22 + s.length) = [125] := by rw [show 22 + s.length = 20 + s.length + 2 by omega, ← List.drop_drop, d21]; rfl
  have n20 : nxt (tT s) 20 = 20 + s.length := by
    unfold nxt; rw [w20]
    show 20 + s.length + bl false ((tT s).drop (20 + s.length)) = _
    rw [d21]; rfl
  have w21 : wAt (tT s) (20 + s.length) = (4, [59]) := by show wordF ((tT s).drop _) = _; rw [d21]; kernel_rfl
  have w23 : wAt (tT s) (22 + s.length) = (4, [125]) := by show wordF ((tT s).drop _) = _; rw [d23]; kernel_rfl
  have n21 : nxt (tT s) (20 + s.length) = 22 + s.length := by
    unfold nxt; rw [w21]
    show 20 + s.length + 1 + bl false ((tT s).drop (20 + s.length + 1)) = _
    rw [← List.drop_drop, d21]
    show 20 + s.length + 1 + 1 = _
    omega
  have n23 : nxt (tT s) (22 + s.length) = 23 + s.length := by
    unfold nxt; rw [w23]
    show 22 + s.length + 1 + bl false ((tT s).drop (22 + s.length + 1)) = _
    rw [← List.drop_drop, d23]
    show 22 + s.length + 1 + 0 = _
    omega
  unfold cutAll
  rw [bl0, cut_step (by omega) (by rw [wAt0]; decide), n0, wAt0, cut_step (by omega) (by rw [wAt5]; decide), n5, wAt5, cut_step (by omega) (by rw [wAt9]; decide), n9, wAt9,
    cut_step (by omega) (by rw [wAt10]; decide), n10, wAt10, cut_step (by omega) (by rw [wAt12]; decide), n12, wAt12, cut_step (by omega) (by rw [wAt14]; decide), nxt14 s hb, wAt14,
    cut_step (by omega) (by rw [w20]; show (3 : Nat) ≠ 0; decide), n20, w20, cut_step (by omega) (by rw [w21]; decide), n21, w21, cut_step (by omega) (by rw [w23]; decide), n23, w23, cut_end (by omega)]
  rfl
theorem cut_num_bad {s : List UInt8} (hne : s ≠ []) (hd : ∀ b ∈ s, digB (b.toNat : Int) = true) (hn : numB s = false) : cutAll (tT s) = (six, some 20) := by
  have hlen := tT_len s
  have hp : 0 < s.length := by cases s with
    | nil => exact absurd rfl hne
    | cons c r => simp
  have hb : bl false (s ++ sufL) = 0 := by
    obtain ⟨c, r, rfl⟩ := List.exists_cons_of_ne_nil hne
    exact bl_dig (hd c (by simp)) _
  obtain ⟨n0, n5, n9, n10, n12⟩ := nxts s
  have w20 : wAt (tT s) 20 = (0, []) := by show wordF ((tT s).drop 20) = _; rw [tT_20, word_dig hne hd, hn]; rfl
  unfold cutAll
  rw [bl0, cut_step (by omega) (by rw [wAt0]; decide), n0, wAt0, cut_step (by omega) (by rw [wAt5]; decide), n5, wAt5, cut_step (by omega) (by rw [wAt9]; decide), n9, wAt9,
    cut_step (by omega) (by rw [wAt10]; decide), n10, wAt10, cut_step (by omega) (by rw [wAt12]; decide), n12, wAt12, cut_step (by omega) (by rw [wAt14]; decide), nxt14 s hb, wAt14,
    cut_bad (by omega) (by rw [w20])]
  rfl
/-- A told function of one text. -/
noncomputable def oX (t : List UInt8) (v : Value) (ar : List Value) : Option (Bool × Value) := match ar with
  | [.string s] => some (tst (s.data.toList = t), v)
  | _ => none
abbrev pOk (s : List UInt8) : Value := .tuple ⟨[pgV s, iv 0, iv 0]⟩
abbrev pNo : Value := .tuple ⟨[.agg ⟨[st [], st [], iv 0, nilV]⟩, iv 20, iv 6]⟩
abbrev eOk (s : List UInt8) : Value := .tuple ⟨[.agg ⟨numC s⟩, .bool true]⟩
abbrev eNo : Value := .tuple ⟨[.agg ⟨[st [], st [], iv 0, nilV]⟩, .bool false]⟩
abbrev tl (n : Int) : Prop := 0 ≤ n ∧ n ≤ 9223372036854775807
noncomputable def tx8 (k : Nat) (ar : List Value) : Option (Bool × Value) := match ar with
  | [.int .i64 n] => some (tst (tl n ∧ n.toNat < k), st (Lib.decDigits n.toNat))
  | _ => none
abbrev uv (v : Nat) : Value := .int .u64 v
noncomputable def aw6 (ar : List Value) : Option (Bool × Value) := match ar with
  | [] => some (true, .bool true)
  | _ => none
noncomputable def tx8a (ar : List Value) : Option (Bool × Value) := match ar with
  | [.int .i64 n] => some (tst (tl n), st (Lib.decDigits n.toNat))
  | _ => none
noncomputable abbrev LF (S : List UInt8) (e p : Value) : TabF := andG 6 aw6 <| andG 8 tx8a <| andG 9 (oX S e) <| andG 7 (oX (tT S) p) noG
abbrev ov (n : Nat) : Bool := decide ((n : Int) > IntKind.i64.max)
theorem ov_f {n : Nat} (h : n ≤ 1000000) : ov n = false := by
  have hmax : IntKind.i64.max = 9223372036854775807 := by decide
  refine decide_eq_false ?_
  rw [hmax]; omega
set_option maxRecDepth 100000 in
theorem tz (t : List UInt8) : runQ Tryd.prog lq (pA (andG 12 (oX t (.tuple ⟨[nilV, iv 20, iv 6]⟩)) noG)) (pK (andG 12 (oX t (.tuple ⟨[nilV, iv 20, iv 6]⟩)) noG)) noLK 8 Tryd.f7 [st t] = bif tE then bif tst (t = t) then some pNo else none else none := by kernel_rfl
noncomputable abbrev xH (s t : List UInt8) (x : Option Value) : Option Value := bif ov (20 + s.length) then none else bif ov ((preL ++ s).length + 3) then none else bif tE then bif tst (tT s = t) then x else none else none
set_option maxRecDepth 100000 in
theorem tx (s t : List UInt8) : RF (andG 7 (oX t (pOk s)) noG) [] noLK Tryd.f9 [st s] = xH s t (bif tst (GVal nilG) then some (eOk s) else none) := by kernel_rfl
set_option maxRecDepth 100000 in
theorem ty (s t : List UInt8) : RF (andG 7 (oX t pNo) noG) [] noLK Tryd.f9 [st s] = xH s t (some eNo) := by kernel_rfl
theorem xH_ok {s : List UInt8} (hs : s.length ≤ 1000) (x : Option Value) : xH s (tT s) x = x := by
  unfold xH
  rw [ov_f (show 20 + s.length ≤ 1000000 by omega), ov_f (show (preL ++ s).length + 3 ≤ 1000000 by simp; omega), tE_t, tst_of rfl]; rfl
theorem oX_ok {g : FuncId} {t : List UInt8} {v : Value} (h : ConQ Tryd.prog lq g [st t] v) : ∀ ar v', oX t v ar = some (true, v') → ConQ Tryd.prog lq g ar v' := fun ar v' h' => by
  unfold oX at h'
  split at h'
  · rename_i s
    obtain ⟨⟨s⟩⟩ := s
    obtain ⟨ht, rfl⟩ := Prod.mk.inj (Option.some.inj h')
    have ht' : s = t := of_tst ht
    subst ht'
    exact h
  · cases h'
/-- The program parsed; an expression parsed. -/
theorem parse_con {s : List UInt8} (hs : s.length ≤ 1000) (hne : s ≠ []) (hd : ∀ b ∈ s, digB (b.toNat : Int) = true) : ConQ Tryd.prog lq 7 [st (tT s)] (if numB s = true then pOk s else pNo) := by
  have hlen : (tT s).length ≤ 16384 := by rw [tT_len]; omega
  have hc := cut_con hlen
  by_cases hn : numB s = true
  · rw [if_pos hn]
    rw [cut_num hne hd hn] at hc
    have e : cutV (tT s) (List.take 9 (WW s (20 + s.length) (22 + s.length) 0), none) = .tuple ⟨[okV (WW s (20 + s.length) (22 + s.length) (23 + s.length)), iv 0, iv 0]⟩ := by
      have : endW (tT s) (List.take 9 (WW s (20 + s.length) (22 + s.length) 0)) = WW s (20 + s.length) (22 + s.length) (23 + s.length) := by
        unfold endW; rw [tT_len]; rfl
      show Value.tuple ⟨[okV (endW (tT s) _), iv 0, iv 0]⟩ = _
      rw [this]
    rw [e] at hc
    have hF : TabQ Tryd.prog lq (andG 12 (cX (tT s) (WW s (20 + s.length) (22 + s.length) (23 + s.length))) noG) := andQ_ok Tryd.func12 rfl (by kernel_rfl) (oX_ok hc) noQ_ok
    exact conQ hmix (pA_ok hF) (pK_ok _) noLK_ok Tryd.func7 rfl (by kernel_rfl) noLO_ok ((tp s (tT s) (20 + s.length) (22 + s.length) (23 + s.length)).trans (by rw [tE_t, tst_of rfl]; rfl))
  · rw [if_neg hn]
    rw [cut_num_bad hne hd ((Bool.not_eq_true _).mp hn)] at hc
    have hF : TabQ Tryd.prog lq (andG 12 (oX (tT s) (.tuple ⟨[nilV, iv 20, iv 6]⟩)) noG) := andQ_ok Tryd.func12 rfl (by kernel_rfl) (oX_ok hc) noQ_ok
    exact conQ hmix (pA_ok hF) (pK_ok _) noLK_ok Tryd.func7 rfl (by kernel_rfl) noLO_ok ((tz (tT s)).trans (by rw [tE_t, tst_of rfl]; rfl))
theorem nilG_ok : GVal nilG := .gsl 0 0 false [] (fun v hv => by cases hv)
theorem expr_con {s : List UInt8} (hs : s.length ≤ 1000) (hne : s ≠ []) (hd : ∀ b ∈ s, digB (b.toNat : Int) = true) : ConQ Tryd.prog lq 9 [st s] (if numB s = true then eOk s else eNo) := by
  have hp := parse_con hs hne hd
  by_cases hn : numB s = true
  · rw [if_pos hn] at hp ⊢
    exact conF (andQ_ok Tryd.func7 rfl (by kernel_rfl) (oX_ok hp) noQ_ok) [] Tryd.func9 rfl (by kernel_rfl) ((tx s (tT s)).trans ((xH_ok hs _).trans (by rw [tst_of nilG_ok]; rfl)))
  · rw [if_neg hn] at hp ⊢
    exact conF (andQ_ok Tryd.func7 rfl (by kernel_rfl) (oX_ok hp) noQ_ok) [] Tryd.func9 rfl (by kernel_rfl) ((ty s (tT s)).trans (xH_ok hs _))
theorem dig1 : ∀ m, m < 10 → List.take (m + 1 - m) (List.drop m ([48, 49, 50, 51, 52, 53, 54, 55, 56, 57] : List UInt8)) = [UInt8.ofNat (48 + m)] := by decide
theorem dd_len : ∀ (n u : Nat), u ≤ n → u < 9223372036854775808 → (Lib.decDigits u).length ≤ 21 := fun n u _ h => by
  have := Lib.itoa_length_le (u : Int) (by omega) (by omega)
  rw [Lib.itoa_nonneg] at this
  exact this
abbrev dgs : List UInt8 := [48, 49, 50, 51, 52, 53, 54, 55, 56, 57]
noncomputable abbrev cut1 (n : Int) (f : List UInt8 → Option Value) : Option Value := bif decide (0 ≤ n) then bif decide (0 ≤ IntKind.wrap IntKind.i64 (n + 1)) then bif Nat.ble (Int.toNat n) (Int.toNat (IntKind.wrap IntKind.i64 (n + 1))) then bif Nat.ble (Int.toNat (IntKind.wrap IntKind.i64 (n + 1))) 10 then f (List.take (Int.toNat (IntKind.wrap IntKind.i64 (n + 1)) - Int.toNat n) (List.drop (Int.toNat n) dgs)) else none else none else none else none
noncomputable abbrev n8 (n : Int) : Nat := Int.toNat (IntKind.wrap IntKind.i64 n)
noncomputable def neg8 (k : Nat) (n : Int) : Option Value := bif n == IntKind.wrap IntKind.i64 (0 - n) then some (st [45, 57, 50, 50, 51, 51, 55, 50, 48, 51, 54, 56, 53, 52, 55, 55, 53, 56, 48, 56]) else bif tE then bif tst (tl (IntKind.wrap IntKind.i64 (0 - n)) ∧ n8 (0 - n) < k) then bif ov (1 + (Lib.decDigits (n8 (0 - n))).length) then none else some (st (45 :: Lib.decDigits (n8 (0 - n)))) else none else none
theorem t8 (k : Nat) (n : Int) : RF (andG 8 (tx8 k) noG) [] noLK Tryd.f8 [iv n] = bif decide (n < 0) then neg8 k n else bif decide (n < 10) then cut1 n (fun l => some (st l)) else
    cut1 (Int.tmod n 10) (fun l => bif tE then bif tst (tl (IntKind.wrap IntKind.i64 (Int.tdiv n 10)) ∧ n8 (Int.tdiv n 10) < k) then bif ov ((Lib.decDigits (n8 (Int.tdiv n 10))).length + l.length) then none else some (st (Lib.decDigits (n8 (Int.tdiv n 10)) ++ l)) else none else none) := by kernel_rfl
theorem cut1_ok {m : Nat} (h : m < 10) (f : List UInt8 → Option Value) : cut1 (m : Int) f = f [UInt8.ofNat (48 + m)] := by
  have e : IntKind.wrap IntKind.i64 ((m : Int) + 1) = ((m + 1 : Nat) : Int) := by rw [i64w]; omega
  unfold cut1
  rw [e, decide_eq_true (show (0 : Int) ≤ m by omega), decide_eq_true (show (0 : Int) ≤ ((m + 1 : Nat) : Int) by omega), Int.toNat_natCast, Int.toNat_natCast, ble_t (by omega), ble_t (by omega), dig1 m h]; rfl
theorem text_run (k m : Nat) (hm : m ≤ 9223372036854775807) (hk : m < k + 1) : RF (andG 8 (tx8 k) noG) [] noLK Tryd.f8 [iv (m : Int)] = some (st (Lib.decDigits m)) := by
  rw [t8, decide_eq_false (by omega)]
  by_cases h10 : m < 10
  · rw [decide_eq_true (by omega), cond_false, cond_true, cut1_ok h10, Lib.decDigits_one h10]
  · have e1 : Int.tmod (m : Int) 10 = ((m % 10 : Nat) : Int) := by rw [Int.tmod_eq_emod_of_nonneg (by omega)]; omega
    have e2 : Int.tdiv (m : Int) 10 = ((m / 10 : Nat) : Int) := by rw [Int.tdiv_eq_ediv_of_nonneg (by omega)]; omega
    have e4 : IntKind.wrap IntKind.i64 ((m / 10 : Nat) : Int) = ((m / 10 : Nat) : Int) := by rw [i64w]; omega
    have hl := dd_len (m / 10) (m / 10) (Nat.le_refl _) (by omega)
    rw [decide_eq_false (by omega), cond_false, cond_false, e1, e2, cut1_ok (Nat.mod_lt _ (by decide))]
    unfold n8
    rw [e4, Int.toNat_natCast, tE_t, tst_of ⟨⟨by omega, by omega⟩, by omega⟩, ov_f (by rw [List.length_singleton]; omega)]
    conv => rhs; rw [Lib.decDigits, dif_neg h10]
    rfl
theorem tx8_ok : ∀ k, TabQ Tryd.prog lq (andG 8 (tx8 k) noG)
  | 0 => andQ_ok Tryd.func8 rfl (by kernel_rfl) (fun ar v h => by
    unfold tx8 at h
    split at h
    · exact absurd (of_tst (Prod.mk.inj (Option.some.inj h)).1).2 (Nat.not_lt_zero _)
    · cases h) noQ_ok
  | k + 1 => andQ_ok Tryd.func8 rfl (by kernel_rfl) (fun ar v h => by
    unfold tx8 at h
    split at h
    · rename_i n
      obtain ⟨ht, rfl⟩ := Prod.mk.inj (Option.some.inj h)
      obtain ⟨⟨h0, h1⟩, h2⟩ := of_tst ht
      obtain ⟨m, rfl⟩ := Int.eq_ofNat_of_zero_le h0
      have h3 : m < k + 1 := by omega
      exact conF (tx8_ok k) [] Tryd.func8 rfl (by kernel_rfl) (text_run k m (by omega) h3)
    · cases h) noQ_ok
theorem text_con {n : Int} (h : tl n) : ConQ Tryd.prog lq 8 [iv n] (st (Lib.decDigits n.toNat)) := by
  obtain ⟨h0, h1⟩ := h
  obtain ⟨m, rfl⟩ := Int.eq_ofNat_of_zero_le h0
  exact conF (tx8_ok m) [] Tryd.func8 rfl (by kernel_rfl) (text_run m m (by omega) (by omega))
/-- Digits' number. -/
def pv (acc : Nat) (l : List UInt8) : Nat := l.foldl (fun v b => v * 10 + (b.toNat - 48)) acc
theorem pv_ge : ∀ (l : List UInt8) (acc : Nat), acc ≤ pv acc l
  | [], acc => Nat.le_refl _
  | b :: r, acc => Nat.le_trans (by omega) (pv_ge r (acc * 10 + (b.toNat - 48)))
def allDig (l : List UInt8) : Prop := ∀ b ∈ l, digB (b.toNat : Int) = true
theorem dig_iff {b : UInt8} (h : digB (b.toNat : Int) = true) : 48 ≤ b.toNat ∧ b.toNat ≤ 57 := by
  unfold digB at h
  rw [Bool.and_eq_true, decide_eq_true_eq, decide_eq_true_eq] at h
  omega
theorem parse_pv : ∀ (l : List UInt8) (acc : Nat), allDig l → acc ≤ 2 ^ 64 - 1 → (pv acc l ≤ 2 ^ 64 - 1 → Lib.parseUintM (2 ^ 64 - 1) acc l = .ok (pv acc l)) ∧ (2 ^ 64 - 1 < pv acc l → Lib.parseUintM (2 ^ 64 - 1) acc l = .range)
  | [], acc, _, ha => ⟨fun _ => rfl, fun h => by
    have h2 : pv acc [] = acc := rfl
    omega⟩
  | b :: r, acc, hd, ha => by
    obtain ⟨h1, h2⟩ := dig_iff (hd b (by simp))
    have hr := parse_pv r (acc * 10 + (b.toNat - 48)) (fun x hx => hd x (by simp [hx]))
    have hge := pv_ge r (acc * 10 + (b.toNat - 48))
    have e : pv acc (b :: r) = pv (acc * 10 + (b.toNat - 48)) r := rfl
    rw [e]
    unfold Lib.parseUintM
    rw [if_pos ⟨h1, h2⟩]
    by_cases g1 : 1844674407370955162 ≤ acc
    · rw [if_pos g1]
      exact ⟨fun h => by omega, fun _ => rfl⟩
    · rw [if_neg g1]
      by_cases g2 : 2 ^ 64 - 1 < acc * 10 + (b.toNat - 48)
      · rw [if_pos g2]
        exact ⟨fun h => by omega, fun _ => rfl⟩
      · rw [if_neg g2]
        exact hr (by omega)
theorem numB_pv {t : List UInt8} (h0 : t ≠ []) (hd : allDig t) : numB t = decide (pv 0 t ≤ 4611686018427387903) := by
  have h := parse_pv t 0 hd (Nat.zero_le _)
  unfold numB Lib.parseUintB
  rw [if_neg h0]
  by_cases hle : pv 0 t ≤ 2 ^ 64 - 1
  · rw [h.1 hle]; rfl
  · rw [h.2 (by omega), decide_eq_false (by omega)]; rfl
theorem dig_of {m : Nat} (h : m < 10) : digB (((UInt8.ofNat (48 + m)).toNat : Nat) : Int) = true ∧ (UInt8.ofNat (48 + m)).toNat - 48 = m := by
  have key : ∀ n : Fin 10, digB (((UInt8.ofNat (48 + n.val)).toNat : Nat) : Int) = true ∧ (UInt8.ofNat (48 + n.val)).toNat - 48 = n.val := by decide +kernel
  exact key ⟨m, h⟩
theorem pv_snoc (l : List UInt8) (b : UInt8) (acc : Nat) : pv acc (l ++ [b]) = pv acc l * 10 + (b.toNat - 48) := by unfold pv; rw [List.foldl_append]; rfl
theorem dd_ok : ∀ (n u : Nat), u ≤ n → Lib.decDigits u ≠ [] ∧ allDig (Lib.decDigits u) ∧ pv 0 (Lib.decDigits u) = u := by
  intro n
  induction n with
  | zero =>
    intro u hu
    obtain rfl : u = 0 := by omega
    rw [Lib.decDigits_one (by decide)]
    refine ⟨by simp, ?_, rfl⟩
    intro b hb; rw [List.mem_singleton.1 hb]; exact (dig_of (m := 0) (by decide)).1
  | succ n ih =>
    intro u hu
    by_cases h10 : u < 10
    · rw [Lib.decDigits_one h10]
      refine ⟨by simp, ?_, ?_⟩
      · intro b hb; rw [List.mem_singleton.1 hb]; exact (dig_of h10).1
      · show 0 * 10 + ((UInt8.ofNat (48 + u)).toNat - 48) = u
        rw [(dig_of h10).2]; omega
    · obtain ⟨h1, h2, h3⟩ := ih (u / 10) (by omega)
      have hm : u % 10 < 10 := Nat.mod_lt _ (by decide)
      rw [Lib.decDigits, dif_neg h10]
      refine ⟨by simp, ?_, ?_⟩
      · intro b hb
        rcases List.mem_append.1 hb with hb | hb
        · exact h2 b hb
        · rw [List.mem_singleton.1 hb]; exact (dig_of hm).1
      · rw [pv_snoc, h3, (dig_of hm).2]; omega
theorem pv_zeros (l : List UInt8) : ∀ z : Nat, pv 0 (List.replicate z 48 ++ l) = pv 0 l
  | 0 => rfl
  | z + 1 => by
    show pv (0 * 10 + (48 - 48)) (List.replicate z 48 ++ l) = _
    exact pv_zeros l z
abbrev nS (v z : Nat) : List UInt8 := List.replicate z 48 ++ Lib.decDigits v
theorem nS_ok (v z : Nat) : nS v z ≠ [] ∧ allDig (nS v z) ∧ numB (nS v z) = decide (v ≤ 4611686018427387903) := by
  obtain ⟨h1, h2, h3⟩ := dd_ok v v (Nat.le_refl _)
  have k1 : nS v z ≠ [] := by intro e; exact h1 (List.append_eq_nil_iff.1 e).2
  have k2 : allDig (nS v z) := by
    intro b hb
    rcases List.mem_append.1 hb with hb | hb
    · rw [(List.mem_replicate.1 hb).2]; decide
    · exact h2 b hb
  exact ⟨k1, k2, by rw [numB_pv k1 k2, pv_zeros, h3]⟩
noncomputable def tab0 : Tr FFn := natTab noF [] (mkTab Tryd.prog gl0 (List.range 110))
set_option maxRecDepth 100000 in
theorem awake_run : callF tab0 200 false 6 [] ⟨eH, 0⟩ (fun v _ => some v) = some (.bool true) := by kernel_rfl
theorem awake_con : ConQ Tryd.prog lq 6 [] (.bool true) := conQ_plain rfl rfl (fun w _ _ => fast_calls hmix noF_ok (fun _ _ _ => rfl) awake_run rfl rfl w)
abbrev vsL (v z : Nat) (i : Nat) : List Value := [uv v, iv (z : Nat), st (nS v i), iv (i : Nat)]
theorem tlo (v : Nat) (z : Int) (s : List UInt8) (i : Int) : ZQ Tryd.prog lq (qA noG []) (qK noG []) noLK Tryd.f4 0 [0, 1, 5, 6] [uv v, iv z, st s, iv i] =
    bif decide (i < z) then bif ov (1 + s.length) then none else some (.normal, [uv v, iv z, st (48 :: s), iv (IntKind.wrap IntKind.i64 (i + 1))], hV lq, 76) else some (.exit 0, [uv v, iv z, st s, iv i], hV lq, 76) := by kernel_rfl
theorem nS_len {v z : Nat} (hv : v ≤ 9223372036854775807) (hz : z ≤ 30) : (nS v z).length ≤ 60 := by
  have := dd_len v v (Nat.le_refl _) (by omega)
  unfold nS; rw [List.length_append, List.length_replicate]; omega
theorem num_loop {v z : Nat} (hv : v ≤ 9223372036854775807) (hz : z ≤ 30) : LoopTri Tryd.prog (glV lq) (hV lq) (loopN Tryd.f4 0) (stT [0, 1, 5, 6] (vsL v z 0) 76 (hV lq)) (.exit 0) (stT [0, 1, 5, 6] (vsL v z z) 76 (hV lq)) := by
  refine loop_plainO hmix (qA_ok noQ_ok []) (qK_ok noG []) noLK_ok noLO_ok (c := loopN Tryd.f4 0) [0, 1, 5, 6] (X := {n : Nat // n ≤ z}) (fun n => vsL v z n.1) (fun n => z - n.1) (fun n => (.exit 0, vsL v z z)) (fun ⟨n, hn⟩ => ?_) ⟨0, Nat.zero_le _⟩
  dsimp only
  have h := tlo v (z : Nat) (nS v n) (n : Nat)
  by_cases hlt : n < z
  · have hl := nS_len (z := n) hv (by omega)
    rw [decide_eq_true (by omega), cond_true, ov_f (by omega), cond_false, wrap1 (by omega)] at h
    exact ⟨_, _, h, .inl ⟨rfl, ⟨n + 1, hlt⟩, rfl, by dsimp only; omega, rfl⟩⟩
  · obtain rfl : n = z := by omega
    rw [decide_eq_false (Int.lt_irrefl _)] at h
    exact ⟨_, _, h, .inr ⟨by simp, rfl⟩⟩
noncomputable abbrev RL (v : Nat) (z : Int) (d S : List UInt8) (e p : Value) := RF (LF S e p) [] (lkV lq 7 [0, 1, 5, 6] [uv v, iv z, st d, iv ((0 : Nat) : Int)] [uv v, iv z, st S, iv z] 76 (.exit 0) noLK) Tryd.f4 [uv v, iv z]
noncomputable abbrev lH (v : Nat) (z : Int) (d S : List UInt8) (x y : Option Value) : Option Value := bif tE then bif decide (z < 0) then bT else bif decide (z > 30) then bT else bif decide ((v : Int) > 9223372036854775807) then bT else bif tE then bif tst (tl (IntKind.wrap IntKind.i64 (v : Int))) then bif tst ([uv v, iv z, st (Lib.decDigits (n8 (v : Int))), iv 0] = [uv v, iv z, st d, iv ((0 : Nat) : Int)] ∧ hV lq = hV lq ∧ 76 = 76) then bif tE then bif tst (S = S) then bif decide ((v : Int) ≥ 4611686018427387904) then bif ov (20 + S.length) then none else bif ov ((preL ++ S).length + 3) then none else bif tE then bif tst (tT S = tT S) then x else none else none else y else none else none else none else none else none else none
set_option maxRecDepth 100000 in
theorem tla (v : Nat) (z : Int) (d S : List UInt8) : RL v z d S (eOk S) (pOk S) = lH v z d S bF (bif S == S then bT else bF) := by kernel_rfl
set_option maxRecDepth 100000 in
theorem tlb (v : Nat) (z : Int) (d S : List UInt8) : RL v z d S eNo pNo = lH v z d S bT bF := by kernel_rfl
theorem LF_ok {S : List UInt8} {e p : Value} (he : ConQ Tryd.prog lq 9 [st S] e) (hp : ConQ Tryd.prog lq 7 [st (tT S)] p) : TabQ Tryd.prog lq (LF S e p) := by
  refine andQ_ok Tryd.func6 rfl (by kernel_rfl) (fun ar v h => ?_) (andQ_ok Tryd.func8 rfl (by kernel_rfl) (fun ar v h => ?_) (andQ_ok Tryd.func9 rfl (by kernel_rfl) (oX_ok he) (andQ_ok Tryd.func7 rfl (by kernel_rfl) (oX_ok hp) noQ_ok)))
  · unfold aw6 at h
    split at h
    · cases h; exact awake_con
    · cases h
  · unfold tx8a at h
    split at h
    · obtain ⟨ht, rfl⟩ := Prod.mk.inj (Option.some.inj h)
      exact text_con (of_tst ht)
    · cases h
theorem loops4 : loopsOf (bodyOf Tryd.f4) = [loopN Tryd.f4 0] := by kernel_rfl
theorem numbers_con (v : Nat) (hv64 : v < 18446744073709551616) (z : Int) : ConQ Tryd.prog lq 4 [uv v, iv z] (.bool true) := by
  have h30 : ∃ k : Nat, k ≤ 30 ∧ (¬ z < 0 → ¬ z > 30 → z = k) := by
    by_cases h1 : z < 0
    · exact ⟨0, by omega, fun h => absurd h1 h⟩
    · by_cases h2 : z > 30
      · exact ⟨0, by omega, fun _ h => absurd h2 h⟩
      · exact ⟨z.toNat, by omega, fun _ _ => by omega⟩
  obtain ⟨k, hk, hzk⟩ := h30
  obtain ⟨g1, g2, g3⟩ := nS_ok v k
  by_cases hz : z < 0 ∨ z > 30 ∨ v > 9223372036854775807
  · -- nothing is asked
    have h9 : digB 57 = true := by decide
    have d1 : ∀ b ∈ ([57] : List UInt8), digB (b.toNat : Int) = true := fun b hb => by rw [List.mem_singleton.1 hb]; decide
    have c9 := expr_con (s := [57]) (by decide) (by simp) d1
    have c7 := parse_con (s := [57]) (by decide) (by simp) d1
    have hn : numB [57] = true := by rw [numB_pv (by simp) d1]; decide
    rw [if_pos hn] at c9 c7
    have hr : RF (LF [57] (eOk [57]) (pOk [57])) [] noLK Tryd.f4 [uv v, iv z] = bT := by
      have key : RF (LF [57] (eOk [57]) (pOk [57])) [] noLK Tryd.f4 [uv v, iv z] = (bif tE then bif decide (z < 0) then bT else bif decide (z > 30) then bT else bif decide ((v : Int) > 9223372036854775807) then bT else bif tE then bif tst (tl (IntKind.wrap IntKind.i64 (v : Int))) then none else none else none else none) := by kernel_rfl
      rw [key, tE_t]
      by_cases h1 : z < 0
      · rw [decide_eq_true h1]; rfl
      · rw [decide_eq_false h1]
        by_cases h2 : z > 30
        · rw [decide_eq_true h2]; rfl
        · rw [decide_eq_false h2, decide_eq_true (show (v : Int) > 9223372036854775807 by omega)]; rfl
    exact conF (LF_ok c9 c7) [] Tryd.func4 rfl (by kernel_rfl) hr
  · obtain rfl : z = k := hzk (by omega) (by omega)
    have hv : v ≤ 9223372036854775807 := by omega
    have hl := nS_len hv hk
    have c9 := expr_con (s := nS v k) (by omega) g1 g2
    have c7 := parse_con (s := nS v k) (by omega) g1 g2
    have ew : IntKind.wrap IntKind.i64 (v : Int) = (v : Int) := by rw [i64w]; omega
    have lok (x y : Option Value) : lH v (k : Nat) (Lib.decDigits v) (nS v k) x y = bif decide ((v : Int) ≥ 4611686018427387904) then x else y := by
      unfold lH n8
      rw [tE_t, decide_eq_false (by omega), decide_eq_false (by omega), decide_eq_false (by omega), ew, Int.toNat_natCast, tst_of ⟨by omega, by omega⟩, tst_of ⟨rfl, rfl, rfl⟩, tst_of rfl, tst_of rfl, ov_f (show 20 + (nS v k).length ≤ 1000000 by omega), ov_f (show (preL ++ nS v k).length + 3 ≤ 1000000 by rw [List.length_append]; simp only [preL, List.length_cons, List.length_nil]; omega)]
      rfl
    have hloop : LoopsOK Tryd.prog (glV lq) (hV lq) _ (loopsOf (bodyOf Tryd.f4)) := loV_ok (l := lq) (r := 7) (ts := [0, 1, 5, 6]) (pre := [uv v, iv (k : Nat), st (Lib.decDigits v), iv ((0 : Nat) : Int)]) (post := [uv v, iv (k : Nat), st (nS v k), iv (k : Nat)]) (n := 76) (x := .exit 0) (fun c hc _ => by
      rw [loops4, List.mem_singleton] at hc
      subst hc
      exact num_loop hv hk) noLO_ok
    by_cases hn : v ≤ 4611686018427387903
    · have e : numB (nS v k) = true := by rw [g3, decide_eq_true hn]
      rw [if_pos e] at c9 c7
      have hr : RL v (k : Nat) (Lib.decDigits v) (nS v k) (eOk (nS v k)) (pOk (nS v k)) = bT := (tla v (k : Nat) _ _).trans ((lok _ _).trans (by rw [decide_eq_false (by omega), beq_self_eq_true]; rfl))
      exact conQ hmix (qA_ok (LF_ok c9 c7) []) (qK_ok _ []) (lkQ_ok noLK_ok) Tryd.func4 rfl (by kernel_rfl) hloop hr
    · have e : ¬ numB (nS v k) = true := by rw [g3, decide_eq_false hn]; simp
      rw [if_neg e] at c9 c7
      have hr : RL v (k : Nat) (Lib.decDigits v) (nS v k) eNo pNo = bT := (tlb v (k : Nat) _ _).trans ((lok _ _).trans (by rw [decide_eq_true (by omega)]; rfl))
      exact conQ hmix (qA_ok (LF_ok c9 c7) []) (qK_ok _ []) (lkQ_ok noLK_ok) Tryd.func4 rfl (by kernel_rfl) hloop hr
/-- What the row's variables are laid with. -/
theorem rowErr (u : TypeId) (h : Tryd.prog.typeName? 3 u = some "*errors.errorString") : u = 83 :=
  typeName_ptr_named (nm := "errors.errorString") (by rw [show "*" ++ "errors.errorString" = "*errors.errorString" by decide]; kernel_rfl) (by kernel_rfl) (by decide) u (by rw [show "*" ++ "errors.errorString" = "*errors.errorString" by decide]; exact h)
theorem rows_laid {W : World} {text : List UInt8} {r : List (String × DataW Unit)} (h : laidMet Tryd.prog (("strconv.ErrRange", .iface "*errors.errorString" (.ptr (.agg [.lit (.string text)]))) :: r) W) : ∀ x ∈ lq, RowS W (fun _ => True) x := by
  obtain ⟨a, s, h1, h2, _, _⟩ := laid_sentinel (g := 1) (ti := 61) (tp := 83) (te := 85) (ts := 9) h (by kernel_rfl) (by kernel_rfl) Tryd.underlying61 rowErr Tryd.underlying83 Tryd.underlying85 rfl rfl Tryd.underlying9 (by kernel_rfl) (by kernel_rfl)
  intro x hx
  rw [lq, List.mem_singleton] at hx
  subst hx
  have hg : Tryd.prog.globalNamed "strconv.ErrRange" = some 1 := by kernel_rfl
  simp only [World.var?, hg, Option.bind_some] at h1
  obtain ⟨ab, ao, asp⟩ := a
  simp only [World.cell?] at h2
  split at h2
  · rename_i c e fz hb
    cases asp with
    | some q => simp at h2
    | none =>
      simp only [Option.isSome_none, Bool.false_eq_true, if_false] at h2
      have hlt := (Array.getElem?_eq_some_iff.1 h2).1
      split at h1
      · rename_i cs e2 fz2 hb2
        have h1' := Option.some.inj h1
        subst h1'
        refine ⟨_, _, _, hb2, rfl, rfl, fun i x y hx hy => ?_⟩
        match i with
        | 0 =>
          cases hx; cases hy
          have := VRel.gptr (μ := muS W fun _ => True) (n := 0) 0 [] ab ao c (muS_some.2 ⟨trivial, e, fz, hb⟩) (by show ao + 0 ≤ c.size; omega) (fun j x y hx => by simp at hx)
          rw [Nat.add_zero] at this
          exact .iface _ _ _ rfl this
        | i + 1 => cases hx
      · cases h1
  · cases h2
theorem numbers_walk (a b : Int) (w : World) (h0 : (Lit.int .u64 a).wf = true) (_ : (Lit.int .i64 b).wf = true) (hw : ∀ x ∈ lq, RowS w (fun _ => True) x) : Calls Tryd.prog 4 #[.int .u64 a, .int .i64 b] w fun e w' => e = .returned (.bool true) ∧ Below w.heap.size w w' := by
  simp [Lit.wf, IntKind.min, IntKind.max, IntKind.bits, IntKind.signed] at h0
  obtain ⟨n, rfl⟩ := Int.eq_ofNat_of_zero_le (show (0 : Int) ≤ a by omega)
  refine (numbers_con n (by omega) b w (fun _ => True) #[uv n, iv b] hw (.cons (.plain _ rfl) (.cons (.plain _ rfl) .nil))).mono ?_
  rintro e w' ⟨c, rfl, hb, hv⟩
  exact ⟨by rw [hv.plainV_eq rfl], hb⟩
end Go.Proofs.YtachednafdmmaaaDoor.AI
