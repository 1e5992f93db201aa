/- Words of texts that are not known. -/
import Derived.Test.YtfiabhfeoljgiaaDoorSXb
import Derived.KernelRfl
namespace Go.Proofs.YtfiabhfeoljgiaaDoor.AI
open Go Go.RowKit 
set_option linter.unusedVariables false
set_option linter.unusedSimpArgs false
/-- Words, each with a blank behind. -/
def cat : List Wd → List UInt8
  | [] => []
  | w :: r => w.2.1 ++ 32 :: cat r
/-- What a text's words are. -/
def WdIn (s : List UInt8) (w : Wd) : Prop := w.2.2 + w.2.1.length ≤ s.length ∧ (s.drop w.2.2).take w.2.1.length = w.2.1
def WdOk (w : Wd) : Prop := w.1 ≠ 0 ∧ ∃ r, wordF r = (w.1, w.2.1)
theorem cutG_all {s : List UInt8} {P : Wd → Prop} (hP : ∀ a, a < s.length → (wAt s a).1 ≠ 0 → P ((wAt s a).1, (wAt s a).2, a)) : ∀ (f a : Nat) (ws : List Wd), (∀ w ∈ ws, P w) → ∀ w ∈ (cutG s f a ws).1, P w := by
  intro f
  induction f with
  | zero => intro a ws h; exact h
  | succ f ih =>
    intro a ws h
    unfold cutG
    split
    · exact h
    · split
      · exact h
      · rename_i h1 h0
        refine ih _ _ fun w hw => ?_
        rcases List.mem_append.1 hw with hw | hw
        · exact h w hw
        · rw [List.mem_singleton.1 hw]; exact hP a (by omega) h0
theorem words_in (s : List UInt8) : ∀ w ∈ (cutAll s).1, WdIn s w ∧ WdOk w := by
  refine cutG_all (P := fun w => WdIn s w ∧ WdOk w) (fun a ha h0 => ?_) _ _ _ (fun w hw => by cases hw)
  obtain ⟨h1, h2, h3⟩ := wordF_ok h0
  have h2' : (wAt s a).2.length ≤ (s.drop a).length := h2
  rw [List.length_drop] at h2'
  exact ⟨⟨by show a + (wAt s a).2.length ≤ s.length; omega, h3⟩, h0, s.drop a, rfl⟩
theorem whN_stop {p : Int → Bool} (hp : p 32 = false) : ∀ (x r : List UInt8), (∀ b ∈ x, p (b.toNat : Int) = true) → whN p (x ++ 32 :: r) = x.length
  | [], r, _ => by show (bif p 32 then _ else 0) = 0; rw [hp]; rfl
  | b :: x, r, h => by
    show (bif p (b.toNat : Int) then whN p (x ++ 32 :: r) + 1 else 0) = x.length + 1
    rw [h b (by simp), whN_stop hp x r (fun c hc => h c (by simp [hc]))]; rfl
theorem sg_self (r : List UInt8) : ∀ x ∈ sgns, sgF (x ++ 32 :: r) sgns = (4, x) := by
  simp only [sgns, List.forall_mem_cons, List.not_mem_nil, false_imp_iff, implies_true, and_true]
  refine ⟨?_, ?_, ?_, ?_, ?_, ?_, ?_, ?_, ?_, ?_, ?_, ?_, ?_, ?_, ?_, ?_, ?_, ?_, ?_, ?_, ?_, ?_, ?_, ?_, ?_, ?_, ?_, ?_, ?_, ?_⟩ <;> rfl
theorem sg_head : ∀ x ∈ sgns, ∃ c t, x = c :: t ∧ letB (c.toNat : Int) = false ∧ digB (c.toNat : Int) = false ∧ blankB (c.toNat : Int) = false ∧ (c = 47 → t = []) := by
  intro x hx
  have key : sgns.all (fun x => match x with | c :: t => !letB (c.toNat : Int) && !digB (c.toNat : Int) && !blankB (c.toNat : Int) && (c != 47 || t == []) | [] => false) = true := by decide
  have := List.all_eq_true.1 key x hx
  cases x with
  | nil => cases this
  | cons c t =>
    simp only [Bool.and_eq_true, Bool.not_eq_true', Bool.or_eq_true] at this
    obtain ⟨⟨⟨h1, h2⟩, h3⟩, h4⟩ := this
    refine ⟨c, t, rfl, h1, h2, h3, fun hc => ?_⟩
    rcases h4 with h4 | h4
    · subst hc; cases h4
    · simpa using h4
theorem let_facts {c : UInt8} (h : letB (c.toNat : Int) = true) : blankB (c.toNat : Int) = false ∧ c ≠ 47 := by
  have key : ∀ n : Fin 256, letB (n.val : Int) = true → blankB (n.val : Int) = false ∧ n.val ≠ 47 := by decide +kernel
  obtain ⟨h1, h2⟩ := key ⟨c.toNat, c.toNat_lt⟩ h
  exact ⟨h1, fun e => h2 (by rw [e]; rfl)⟩
theorem dig_facts {c : UInt8} (h : digB (c.toNat : Int) = true) : blankB (c.toNat : Int) = false ∧ c ≠ 47 ∧ letB (c.toNat : Int) = false := by
  have key : ∀ n : Fin 256, digB (n.val : Int) = true → blankB (n.val : Int) = false ∧ n.val ≠ 47 ∧ letB (n.val : Int) = false := by decide +kernel
  obtain ⟨h1, h2, h3⟩ := key ⟨c.toNat, c.toNat_lt⟩ h
  exact ⟨h1, fun e => h2 (by rw [e]; rfl), h3⟩
/-- A word with a blank behind is read as that word; nothing stands ahead of it. -/
theorem word_again {k : Nat} {x : List UInt8} (h0 : k ≠ 0) {q : List UInt8} (hq : wordF q = (k, x)) (r : List UInt8) : wordF (x ++ 32 :: r) = (k, x) ∧ bl false (x ++ 32 :: r) = 0 := by
  have hbl (c : UInt8) (t : List UInt8) (hb : blankB (c.toNat : Int) = false) (hc : c = 47 → t = []) : bl false (c :: t ++ 32 :: r) = 0 := by
    show (bif blankB (c.toNat : Int) then _ else bif [47, 47].isPrefixOf (c :: (t ++ 32 :: r)) then _ else 0) = 0
    rw [hb, cond_false]
    have : [47, 47].isPrefixOf (c :: (t ++ 32 :: r)) = false := by
      by_cases h47 : c = 47
      · rw [hc h47, h47]; rfl
      · rw [← Bool.not_eq_true]; intro g
        rw [List.isPrefixOf, Bool.and_eq_true, beq_iff_eq] at g
        exact h47 g.1.symm
    rw [this]; rfl
  cases q with
  | nil => rw [show wordF [] = (0, []) from rfl] at hq; exact absurd (Prod.mk.inj hq).1.symm h0
  | cons c t =>
    rw [wordF_cons] at hq
    have take1 (p : Int → Bool) (hp : p (c.toNat : Int) = true) : (c :: t).take (whN p (c :: t)) = c :: t.take (whN p t) := by
      show (c :: t).take (bif p (c.toNat : Int) then whN p t + 1 else 0) = _
      rw [hp]; rfl
    cases hl : letB (c.toNat : Int) with
    | true =>
      rw [hl, cond_true] at hq
      have hn : namB (c.toNat : Int) = true := by unfold namB; rw [hl]; rfl
      split at hq
      · exact absurd (Prod.mk.inj hq).1.symm h0
      · rename_i h64
        obtain ⟨e1, e2⟩ := Prod.mk.inj hq
        have hall := whN_all namB (c :: t)
        rw [e2] at hall
        have hx : x = c :: t.take (whN namB t) := by rw [← e2, take1 namB hn]
        have hlen : x.length = whN namB (c :: t) := by rw [← e2, List.length_take]; exact Nat.min_eq_left (whN_le _ _)
        have hw := whN_stop (p := namB) (by decide) x r hall
        refine ⟨?_, by rw [hx]; exact hbl c _ (let_facts hl).1 (fun e => absurd e (let_facts hl).2)⟩
        have e3 : (x ++ 32 :: r).take (whN namB (x ++ 32 :: r)) = x := by rw [hw]; exact List.take_left
        rw [e2] at e1
        have hcons : x ++ 32 :: r = c :: (t.take (whN namB t) ++ 32 :: r) := by rw [hx]; rfl
        rw [hcons, wordF_cons, hl, cond_true, ← hcons, hw, if_neg (by omega), ← hw, e3, e1]
    | false =>
      rw [hl, cond_false] at hq
      cases hd : digB (c.toNat : Int) with
      | true =>
        rw [hd, cond_true] at hq
        cases hnm : numB ((c :: t).take (whN digB (c :: t))) with
        | false => rw [hnm] at hq; exact absurd (Prod.mk.inj hq).1.symm h0
        | true =>
          rw [hnm, cond_true] at hq
          obtain ⟨e1, e2⟩ := Prod.mk.inj hq
          have hall := whN_all digB (c :: t)
          rw [e2] at hall hnm
          have hx : x = c :: t.take (whN digB t) := by rw [← e2, take1 digB hd]
          have hw := whN_stop (p := digB) (by decide) x r hall
          refine ⟨?_, by rw [hx]; exact hbl c _ (dig_facts hd).1 (fun e => absurd e (dig_facts hd).2.1)⟩
          have e3 : (x ++ 32 :: r).take (whN digB (x ++ 32 :: r)) = x := by rw [hw]; exact List.take_left
          have hcons : x ++ 32 :: r = c :: (t.take (whN digB t) ++ 32 :: r) := by rw [hx]; rfl
          rw [hcons, wordF_cons, hl, hd, cond_false, cond_true, ← hcons, e3, hnm, e1]; rfl
      | false =>
        rw [hd, cond_false] at hq
        rcases sgF_ok (c :: t) sgns sgns_ne with h1 | ⟨h1, h2, _⟩
        · rw [hq] at h1; exact absurd h1 h0
        · rw [hq] at h1 h2
          dsimp only at h1 h2
          obtain ⟨c', t', rfl, g1, g2, g3, g4⟩ := sg_head x h2
          refine ⟨?_, hbl c' t' g3 g4⟩
          show wordF (c' :: (t' ++ 32 :: r)) = (k, c' :: t')
          rw [wordF_cons, g1, g2, cond_false, cond_false]
          show sgF (c' :: t' ++ 32 :: r) sgns = _
          rw [sg_self r _ h2, h1]
theorem bl_cat : ∀ (ws : List Wd), (∀ w ∈ ws, WdOk w) → bl false (cat ws ++ [32]) = if ws = [] then 1 else 0
  | [], _ => rfl
  | w :: r, h => by
    obtain ⟨h0, q, hq⟩ := h w (by simp)
    have := (word_again h0 hq (cat r ++ [32])).2
    rw [if_neg (by simp), ← this]
    show bl false (w.2.1 ++ 32 :: cat r ++ [32]) = _
    simp
/-- The words again, where they stand now. -/
def moved : Nat → List Wd → List Wd
  | _, [] => []
  | a, w :: r => (w.1, w.2.1, a) :: moved (a + w.2.1.length + 1) r
theorem cut_cat {t : List UInt8} : ∀ (ws : List Wd) (p : List UInt8) (acc : List Wd), (∀ w ∈ ws, WdOk w) → ws ≠ [] → t = p ++ (cat ws ++ [32]) → cut t p.length acc = (acc ++ moved p.length ws, none)
  | [], _, _, _, h, _ => absurd rfl h
  | w :: r, p, acc, h, _, ht => by
    obtain ⟨h0, q, hq⟩ := h w (by simp)
    have hr : ∀ w ∈ r, WdOk w := fun v hv => h v (by simp [hv])
    have hd : t.drop p.length = w.2.1 ++ 32 :: (cat r ++ [32]) := by
      rw [ht, List.drop_left]
      show w.2.1 ++ 32 :: cat r ++ [32] = _
      simp
    have hw := word_again h0 hq (cat r ++ [32])
    have hwa : wAt t p.length = (w.1, w.2.1) := by show wordF (t.drop p.length) = _; rw [hd, hw.1]
    have hlt : p.length < t.length := by rw [ht, List.length_append]; simp
    have hne : (wAt t p.length).1 ≠ 0 := by rw [hwa]; exact h0
    have ht2 : t = (p ++ w.2.1 ++ [32]) ++ (cat r ++ [32]) := by
      rw [ht]
      show p ++ (w.2.1 ++ 32 :: cat r ++ [32]) = _
      simp
    have hd2 : t.drop (p.length + w.2.1.length) = 32 :: (cat r ++ [32]) := by
      rw [← List.drop_drop, hd, List.drop_left]
    have hn : nxt t p.length = p.length + w.2.1.length + (bl false (cat r ++ [32]) + 1) := by
      unfold nxt
      rw [hwa]
      show p.length + w.2.1.length + bl false (t.drop (p.length + w.2.1.length)) = _
      rw [hd2]; rfl
    have hl : (p ++ w.2.1 ++ [32]).length = p.length + w.2.1.length + 1 := by simp; omega
    rw [cut_step hlt hne, hwa, hn, bl_cat r hr]
    by_cases hr0 : r = []
    · subst hr0
      rw [if_pos rfl, cut_end (by rw [ht2]; simp [cat]; omega)]
      rfl
    · rw [if_neg hr0]
      have := cut_cat r (p ++ w.2.1 ++ [32]) (acc ++ [(w.1, w.2.1, p.length)]) hr hr0 ht2
      rw [hl] at this
      rw [Nat.zero_add]
      refine this.trans ?_
      simp [moved]
theorem cat_app : ∀ (a b : List Wd), cat (a ++ b) = cat a ++ cat b
  | [], b => rfl
  | w :: r, b => by show w.2.1 ++ 32 :: cat (r ++ b) = w.2.1 ++ 32 :: cat r ++ cat b; rw [cat_app r b]; simp
/-- Written with blanks between, the words are the same. -/
theorem cut_again (s : List UInt8) (ws : List Wd) (h : ∀ w ∈ ws, WdOk w) : cutAll (cat (endW s ws)) = (moved 0 ws, none) := by
  have e : cat (endW s ws) = cat ws ++ [32] := by unfold endW; rw [cat_app]; rfl
  rw [e]
  unfold cutAll
  rw [bl_cat ws h]
  by_cases h0 : ws = []
  · subst h0; rw [if_pos rfl, cut_end (by simp [cat])]; rfl
  · rw [if_neg h0]
    exact cut_cat ws [] [] h h0 rfl
theorem moved_len : ∀ (ws : List Wd) (a : Nat), (moved a ws).length = ws.length
  | [], _ => rfl
  | w :: r, a => by show (moved _ r).length + 1 = r.length + 1; rw [moved_len r]
theorem moved_at : ∀ (ws : List Wd) (a i : Nat) (h : i < ws.length) (h' : i < (moved a ws).length), (moved a ws)[i].1 = ws[i].1 ∧ (moved a ws)[i].2.1 = ws[i].2.1
  | w :: r, a, 0, _, _ => ⟨rfl, rfl⟩
  | w :: r, a, i + 1, h, h' => moved_at r _ i (by simpa using h) (by simpa [moved] using h')
abbrev cI (i : Int) : Nat := 0 + Int.toNat i * 3
abbrev sT (cs : List Value) (i : Int) : List UInt8 := (strAt cs (cI i + 1)).data.toList
abbrev aT (cs : List Value) (i : Int) : Int := intAt cs (cI i + 2)
abbrev eT (cs : List Value) (i : Int) : Int := IntKind.wrap IntKind.i64 (aT cs i + ((sT cs i).length : Nat))
abbrev ovr (n : Nat) : Bool := decide ((n : Int) > IntKind.i64.max)
noncomputable abbrev ZB1 (L : Nat) (cs : List Value) (s t : List UInt8) (i : Int) := ZQ Tryd.prog lq (qA noG []) (qK noG []) noLK Tryd.f6 0 [0, 3, 6, 7] [st s, gv L cs, st t, iv i]
theorem btA (L : Nat) (cs : List Value) (s t : List UInt8) (i : Int) : ZB1 L cs s t i =
    bif decide (i < (L : Int)) then rdT L i (isInt .i64 cs (cI i + 2)) (bif decide (aT cs i < 0) then some (.ret, [st s, gv L cs, st t, iv i], hV lq, 134) else
      rdT L i (isInt .i64 cs (cI i + 2)) (rdT L i (isStr cs (cI i + 1)) (bif decide (aT cs i > IntKind.wrap IntKind.i64 ((s.length : Int) - ((sT cs i).length : Int))) then some (.ret, [st s, gv L cs, st t, iv i], hV lq, 134) else
      rdT L i (isInt .i64 cs (cI i + 2)) (rdT L i (isInt .i64 cs (cI i + 2)) (rdT L i (isStr cs (cI i + 1)) (bif decide (0 ≤ aT cs i) then bif decide (0 ≤ eT cs i) then bif Nat.ble (Int.toNat (aT cs i)) (Int.toNat (eT cs i)) then bif Nat.ble (Int.toNat (eT cs i)) s.length then
        rdT L i (isStr cs (cI i + 1)) (bif !(List.take (Int.toNat (eT cs i) - Int.toNat (aT cs i)) (List.drop (Int.toNat (aT cs i)) s) == sT cs i) then some (.ret, [st s, gv L cs, st t, iv i], hV lq, 134) else
        rdT L i (isStr cs (cI i + 1)) (bif ovr (t.length + (sT cs i).length) then none else bif ovr ((t ++ sT cs i).length + 1) then none else some (.normal, [st s, gv L cs, st (t ++ sT cs i ++ [32]), iv (IntKind.wrap IntKind.i64 (i + 1))], hV lq, 134)))
        else none else none else none else none)))))) else some (.exit 0, [st s, gv L cs, st t, iv i], hV lq, 134) := by kernel_rfl
noncomputable abbrev ZB2 (L M : Nat) (cs ds : List Value) (i : Int) := ZQ Tryd.prog lq (qA noG []) (qK noG []) noLK Tryd.f6 1 [3, 8, 11] [gv L cs, gv M ds, iv i]
theorem btB (L M : Nat) (cs ds : List Value) (i : Int) : ZB2 L M cs ds i =
    bif decide (i < (L : Int)) then rdT M i (isInt .i64 ds (cI i)) (rdT L i (isInt .i64 cs (cI i)) (bif intAt ds (cI i) != intAt cs (cI i) then some (.ret, [gv L cs, gv M ds, iv i], hV lq, 134) else
      rdT M i (isStr ds (cI i + 1)) (rdT L i (isStr cs (cI i + 1)) (bif !(sT ds i == sT cs i) then some (.ret, [gv L cs, gv M ds, iv i], hV lq, 134) else some (.normal, [gv L cs, gv M ds, iv (IntKind.wrap IntKind.i64 (i + 1))], hV lq, 134))))) else some (.exit 2, [gv L cs, gv M ds, iv i], hV lq, 134) := by kernel_rfl
theorem catG_len {s : List UInt8} : ∀ (f a : Nat) (ws : List Wd), a ≤ s.length → (cat ws).length ≤ 2 * a → (cat (cutG s f a ws).1).length ≤ 2 * s.length := by
  intro f
  induction f with
  | zero => intro a ws h1 h2; show (cat ws).length ≤ _; omega
  | succ f ih =>
    intro a ws h1 h2
    unfold cutG
    split
    · show (cat ws).length ≤ _; omega
    · split
      · show (cat ws).length ≤ _; omega
      · rename_i h0
        have k1 := nxt_le h1 h0
        have k2 : 0 < (wAt s a).2.length := (wordF_ok h0).1
        refine ih _ _ k1.2 ?_
        rw [cat_app, List.length_append]
        have e : (cat [((wAt s a).1, (wAt s a).2, a)]).length = (wAt s a).2.length + 1 := by simp [cat]
        rw [e]
        unfold nxt
        omega
theorem cat_take {W : List Wd} {i : Nat} (h : i < W.length) : cat (W.take (i + 1)) = cat (W.take i) ++ (W[i]).2.1 ++ [32] := by
  rw [List.take_succ_eq_append_getElem h, cat_app]
  simp [cat]
theorem cat_take_le (W : List Wd) (i : Nat) : (cat (W.take i)).length ≤ (cat W).length := by
  conv => rhs; rw [← List.take_append_drop i W, cat_app, List.length_append]
  omega
theorem ovr_f {n : Nat} (h : n ≤ 1000000) : ovr n = false := by
  have hmax : IntKind.i64.max = 9223372036854775807 := by decide
  refine decide_eq_false ?_
  rw [hmax]; omega
theorem b1_loop {s : List UInt8} {W : List Wd} (hs : s.length ≤ 3000) (hW : ∀ w ∈ W, WdIn s w) (hl : W.length ≤ 20000) (hc : (cat W).length ≤ 10000) : LoopTri Tryd.prog (glV lq) (hV lq) (loopN Tryd.f6 0) (stT [0, 3, 6, 7] [st s, okV W, st [], iv ((0 : Nat) : Int)] 134 (hV lq)) (.exit 0) (stT [0, 3, 6, 7] [st s, okV W, st (cat W), iv (W.length : Nat)] 134 (hV lq)) := by
  refine loop_plainO hmix (qA_ok noQ_ok []) (qK_ok noG []) noLK_ok noLO_ok (c := loopN Tryd.f6 0) [0, 3, 6, 7] (X := {n : Nat // n ≤ W.length}) (fun n => [st s, okV W, st (cat (W.take n.1)), iv (n.1 : Int)]) (fun n => W.length - n.1)
    (fun n => (.exit 0, [st s, okV W, st (cat W), iv (W.length : Nat)])) (fun ⟨n, hn⟩ => ?_) ⟨0, Nat.zero_le _⟩
  dsimp only
  have h := btA W.length (wCs W) s (cat (W.take n)) (n : Nat)
  by_cases hlt : n < W.length
  · obtain ⟨_, h2, h3⟩ := wCs_at W n hlt
    obtain ⟨q1, q2⟩ := hW _ (List.getElem_mem hlt)
    have hle := cat_take_le W n
    have hle2 := cat_take_le W (n + 1)
    rw [cat_take hlt, List.length_append, List.length_append, List.length_singleton] at hle2
    have e1 : cI (n : Int) = n * 3 := by unfold cI; rw [Int.toNat_natCast, Nat.zero_add]
    have e2 : sT (wCs W) (n : Int) = (W[n]).2.1 := by unfold sT; rw [e1, (isStr_of h2).2]
    have e3 : aT (wCs W) (n : Int) = ((W[n]).2.2 : Nat) := by unfold aT; rw [e1, (isInt_of h3).2]
    have e4 : eT (wCs W) (n : Int) = (((W[n]).2.2 + (W[n]).2.1.length : Nat) : Int) := by unfold eT; rw [e2, e3, i64w]; omega
    rw [e4, e3, e2, e1, (isStr_of h2).1, (isInt_of h3).1, decide_eq_true (show (n : Int) < (W.length : Int) by omega)] at h
    simp only [rdT_t hlt, cond_true, cond_false, decide_eq_false (show ¬ (((W[n]).2.2 : Nat) : Int) < 0 by omega), decide_eq_false (show ¬ (((W[n]).2.2 : Nat) : Int) > IntKind.wrap IntKind.i64 ((s.length : Int) - (((W[n]).2.1.length : Nat) : Int)) by rw [i64w]; omega),
      decide_eq_true (show (0 : Int) ≤ (((W[n]).2.2 : Nat) : Int) by omega), decide_eq_true (show (0 : Int) ≤ (((W[n]).2.2 + (W[n]).2.1.length : Nat) : Int) by omega), Int.toNat_natCast, ble_t (show (W[n]).2.2 ≤ (W[n]).2.2 + (W[n]).2.1.length by omega), ble_t q1, show (W[n]).2.2 + (W[n]).2.1.length - (W[n]).2.2 = (W[n]).2.1.length by omega, q2, beq_self_eq_true, Bool.not_true,
      ovr_f (show (cat (W.take n)).length + (W[n]).2.1.length ≤ 1000000 by omega), ovr_f (show (cat (W.take n) ++ (W[n]).2.1).length + 1 ≤ 1000000 by rw [List.length_append]; omega), wrap1 (show n < 10000000 by omega)] at h
    rw [← cat_take hlt] at h
    exact ⟨_, _, h, .inl ⟨rfl, ⟨n + 1, hlt⟩, rfl, by dsimp only; omega, rfl⟩⟩
  · obtain rfl : n = W.length := by omega
    rw [decide_eq_false (Int.lt_irrefl _), List.take_length] at h
    refine ⟨_, _, by rw [List.take_length]; exact h, .inr ⟨by simp, rfl⟩⟩
theorem b2_loop {W V : List Wd} (hlen : V.length = W.length) (hl : W.length ≤ 20000) (heq : ∀ i (h : i < W.length) (h' : i < V.length), (V[i]).1 = (W[i]).1 ∧ (V[i]).2.1 = (W[i]).2.1) : LoopTri Tryd.prog (glV lq) (hV lq) (loopN Tryd.f6 1) (stT [3, 8, 11] [okV W, okV V, iv ((0 : Nat) : Int)] 134 (hV lq)) (.exit 2) (stT [3, 8, 11] [okV W, okV V, iv (V.length : Nat)] 134 (hV lq)) := by
  refine loop_plainO hmix (qA_ok noQ_ok []) (qK_ok noG []) noLK_ok noLO_ok (c := loopN Tryd.f6 1) [3, 8, 11] (X := {n : Nat // n ≤ V.length}) (fun n => [okV W, okV V, iv (n.1 : Int)]) (fun n => V.length - n.1)
    (fun n => (.exit 2, [okV W, okV V, iv (V.length : Nat)])) (fun ⟨n, hn⟩ => ?_) ⟨0, Nat.zero_le _⟩
  dsimp only
  have h := btB W.length V.length (wCs W) (wCs V) (n : Nat)
  by_cases hlt : n < V.length
  · have hlt' : n < W.length := by omega
    obtain ⟨h1, h2, _⟩ := wCs_at W n hlt'
    obtain ⟨g1, g2, _⟩ := wCs_at V n hlt
    obtain ⟨q1, q2⟩ := heq n hlt' hlt
    have e1 : cI (n : Int) = n * 3 := by unfold cI; rw [Int.toNat_natCast, Nat.zero_add]
    have e2 : sT (wCs W) (n : Int) = (W[n]).2.1 := by unfold sT; rw [e1, (isStr_of h2).2]
    have e3 : sT (wCs V) (n : Int) = (W[n]).2.1 := by unfold sT; rw [e1, (isStr_of g2).2]; exact q2
    rw [e3, e2, e1, (isStr_of h2).1, (isStr_of g2).1, (isInt_of h1).1, (isInt_of g1).1, (isInt_of h1).2, (isInt_of g1).2, q1, decide_eq_true (show (n : Int) < (W.length : Int) by omega)] at h
    simp only [rdT_t hlt, rdT_t hlt', cond_true, cond_false, bne_self_eq_false, beq_self_eq_true, Bool.not_true, wrap1 (show n < 10000000 by omega)] at h
    exact ⟨_, _, h, .inl ⟨rfl, ⟨n + 1, hlt⟩, rfl, by dsimp only; omega, rfl⟩⟩
  · obtain rfl : n = V.length := by omega
    rw [decide_eq_false (show ¬ ((V.length : Nat) : Int) < (W.length : Int) by omega)] at h
    exact ⟨_, _, h, .inr ⟨by simp, rfl⟩⟩
/-- A text's words, and where it ends. -/
def wds (s : List UInt8) : List Wd := endW s (cutAll s).1
noncomputable def s8 (ar : List Value) : Option (Bool × Value) := match ar with
  | [.string s] => some (tst (s.data.toList.length ≤ 16384 ∧ (cutAll s.data.toList).2 = none), .tuple ⟨[okV (wds s.data.toList), iv 0, iv 0]⟩)
  | _ => none
noncomputable def GS : TabF := andG 8 s8 G0
theorem GS_ok : TabQ Tryd.prog lq GS := andQ_ok Tryd.func8 rfl (by kernel_rfl) (fun ar v h => by
  unfold s8 at h
  split at h
  · rename_i s
    obtain ⟨⟨s⟩⟩ := s
    obtain ⟨ht, rfl⟩ := Prod.mk.inj (Option.some.inj h)
    obtain ⟨hs, h1⟩ := of_tst ht
    have := cut_con (s := s) hs
    have e : cutAll s = ((cutAll s).1, none) := Prod.ext rfl h1
    rw [e] at this
    exact this
  · cases h) G0_ok
noncomputable abbrev RB6 (s T : List UInt8) := RF GS [] (lkV lq 10 [0, 3, 6, 7] [st s, okV (wds s), st [], iv ((0 : Nat) : Int)] [st s, okV (wds s), st T, iv ((wds s).length : Nat)] 134 (.exit 0) (lkV lq 19 [3, 8, 11] [okV (wds s), okV (wds T), iv ((0 : Nat) : Int)] [okV (wds s), okV (wds T), iv ((wds T).length : Nat)] 134 (.exit 2) noLK)) Tryd.f6 [st s]
noncomputable abbrev h1 (s : List UInt8) (x : Option Value) : Option Value := bif tE then bif decide ((s.length : Int) > 3000) then bT else bif tE then x else none else none
set_option maxRecDepth 100000 in
theorem t6 (s T : List UInt8) : RB6 s T = h1 s (bif tst (s.length ≤ 16384 ∧ (cutAll s).2 = none) then bif tst ([st s, okV (wds s), st [], iv 0] = [st s, okV (wds s), st [], iv ((0 : Nat) : Int)] ∧ hV lq = hV lq ∧ 134 = 134) then bif tE then bif tst (T.length ≤ 16384 ∧ (cutAll T).2 = none) then
    bif ((wds T).length : Int) != ((wds s).length : Int) then bF else bif tst ([okV (wds s), okV (wds T), iv 0] = [okV (wds s), okV (wds T), iv ((0 : Nat) : Int)] ∧ hV lq = hV lq ∧ 134 = 134) then bT else none else none else none else none else none) := by kernel_rfl
set_option maxRecDepth 100000 in
theorem t6d (s : List UInt8) (n : Nat) : RF (GD n) [] noLK Tryd.f6 [st s] = h1 s (bif tst (s.length ≤ 16384 ∧ ∃ ws, cutAll s = (ws, some n)) then bT else none) := by kernel_rfl
theorem loops6 : loopsOf (bodyOf Tryd.f6) = [loopN Tryd.f6 0, loopN Tryd.f6 1] := by kernel_rfl
theorem reg6 : (isReg 10 (loopN Tryd.f6 1), isReg 19 (loopN Tryd.f6 0)) = (false, false) := by kernel_rfl
theorem betw_con (s : List UInt8) : ConQ Tryd.prog lq 6 [st s] (.bool true) := by
  have hD (n : Nat) (hr : RF (GD n) [] noLK Tryd.f6 [st s] = bT) : ConQ Tryd.prog lq 6 [st s] (.bool true) := conF (GD_ok n) [] Tryd.func6 rfl (by kernel_rfl) hr
  by_cases hbig : s.length > 3000
  · exact hD 0 ((t6d s 0).trans (by unfold h1; rw [tE_t, decide_eq_true (by omega)]; rfl))
  · have h1x (x : Option Value) : h1 s x = x := by unfold h1; rw [tE_t, decide_eq_false (by omega)]; rfl
    cases ho : (cutAll s).2 with
    | some n => exact hD n ((t6d s n).trans ((h1x _).trans (by rw [tst_of ⟨by omega, (cutAll s).1, Prod.ext rfl ho⟩]; rfl)))
    | none =>
      have hin := words_in s
      have hlen : (cutAll s).1.length ≤ s.length := cut_len _ _ _ (bl_le s false) (Nat.zero_le _)
      have hcat : (cat (cutAll s).1).length ≤ 2 * s.length := catG_len _ _ _ (bl_le s false) (Nat.zero_le _)
      have hcW : (cat (wds s)).length = (cat (cutAll s).1).length + 1 := by unfold wds endW; rw [cat_app, List.length_append]; rfl
      have hlW : (wds s).length = (cutAll s).1.length + 1 := by unfold wds endW; rw [List.length_append]; rfl
      have hag : cutAll (cat (wds s)) = (moved 0 (cutAll s).1, none) := cut_again s (cutAll s).1 (fun w hw => (hin w hw).2)
      have hwT : wds (cat (wds s)) = endW (cat (wds s)) (moved 0 (cutAll s).1) := by unfold wds; rw [show cutAll (cat (endW s (cutAll s).1)) = _ from hag]
      have hlT : (wds (cat (wds s))).length = (wds s).length := by rw [hwT, hlW, endW, List.length_append, moved_len]; rfl
      have hr : RB6 s (cat (wds s)) = bT := (t6 s (cat (wds s))).trans ((h1x _).trans (by
        rw [tst_of ⟨by omega, ho⟩, tst_of ⟨rfl, rfl, rfl⟩, tE_t, tst_of ⟨by omega, by rw [hag]⟩, hlT, bne_self_eq_false, tst_of ⟨rfl, rfl, rfl⟩]; rfl))
      have rg := reg6
      simp only [Prod.mk.injEq] at rg
      refine conQ hmix (qA_ok GS_ok []) (qK_ok _ []) (lkQ_ok (lkQ_ok noLK_ok)) Tryd.func6 rfl (by kernel_rfl) (loV_ok (fun c hc hg => ?_) (loV_ok (fun c hc hg => ?_) noLO_ok)) hr
      · rw [loops6] at hc
        rcases List.mem_cons.1 hc with rfl | hc
        · refine b1_loop (by omega) (fun w hw => ?_) (by omega) (by omega)
          rcases List.mem_append.1 hw with hw | hw
          · exact (hin w hw).1
          · rw [List.mem_singleton.1 hw]
            exact ⟨Nat.le_refl _, by simp⟩
        · rw [List.mem_singleton.1 hc, rg.1] at hg; cases hg
      · rw [loops6] at hc
        rcases List.mem_cons.1 hc with rfl | hc
        · rw [rg.2] at hg; cases hg
        · rw [List.mem_singleton.1 hc]
          refine b2_loop hlT (by omega) (fun i hi hi' => ?_)
          simp only [hwT]
          by_cases hic : i < (cutAll s).1.length
          · have h' : i < (moved 0 (cutAll s).1).length := by rw [moved_len]; exact hic
            have := moved_at (cutAll s).1 0 i hic h'
            simp only [endW, wds, List.getElem_append_left hic, List.getElem_append_left h']
            exact this
          · have hie : i = (cutAll s).1.length := by rw [hlW] at hi; omega
            subst hie
            have h' : (moved 0 (cutAll s).1).length = (cutAll s).1.length := moved_len _ _
            simp [endW, wds, List.getElem_append_right, h']
theorem between_walk (a : ByteArray) (w : World) (_ : a.size ≤ maxLen) (hw : ∀ x ∈ lq, RowS w (fun _ => True) x) : Calls Tryd.prog 6 #[.string a] w fun e w' => e = .returned (.bool true) ∧ Below w.heap.size w w' := by
  obtain ⟨⟨s⟩⟩ := a
  refine (betw_con s w (fun _ => True) #[st s] hw (.cons (.plain _ rfl) .nil)).mono ?_
  rintro e w' ⟨c, rfl, hb, hv⟩
  exact ⟨by rw [hv.plainV_eq rfl], hb⟩
end Go.Proofs.YtfiabhfeoljgiaaDoor.AI
