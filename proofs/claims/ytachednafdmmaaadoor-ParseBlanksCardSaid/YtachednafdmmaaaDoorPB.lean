/- The parser. -/
import Derived.Test.YtachednafdmmaaaDoorPS1
import Derived.Stop.LaidErr
import Derived.KernelRfl
namespace Go.Proofs.YtachednafdmmaaaDoor.AI
open Go Go.RowKit Go.Shelf
set_option linter.unusedVariables false
set_option linter.unusedSimpArgs false
namespace Lx
/-- What a text's words are. -/
def WdIn (s : List UInt8) (w : Wd) : Prop := w.2.2 + w.2.1.length ≤ s.length ∧ (s.drop w.2.2).take w.2.1.length = w.2.1
def WdOk (w : Wd) : Prop := w.1 ≠ 0 ∧ ∃ r, wordF r = (w.1, w.2.1)
theorem cutG_all {s : List UInt8} {P : Wd → Prop} (hP : ∀ a, a < s.length → (wAt s a).1 ≠ 0 → P ((wAt s a).1, (wAt s a).2, a)) : ∀ (f a : Nat) (ws : List Wd), (∀ w ∈ ws, P w) → ∀ w ∈ (cutG s f a ws).1, P w := by
  intro f
  induction f with
  | zero => intro a ws h; exact h
  | succ f ih =>
    intro a ws h
    unfold cutG
    split
    · exact h
    · split
      · exact h
      · rename_i h1 h0
        refine ih _ _ fun w hw => ?_
        rcases List.mem_append.1 hw with hw | hw
        · exact h w hw
        · rw [List.mem_singleton.1 hw]; exact hP a (by omega) h0
theorem words_in (s : List UInt8) : ∀ w ∈ (cutAll s).1, WdIn s w ∧ WdOk w := by
  refine cutG_all (P := fun w => WdIn s w ∧ WdOk w) (fun a ha h0 => ?_) _ _ _ (fun w hw => by cases hw)
  obtain ⟨h1, h2, h3⟩ := wordF_ok h0
  have h2' : (wAt s a).2.length ≤ (s.drop a).length := h2
  rw [List.length_drop] at h2'
  exact ⟨⟨by show a + (wAt s a).2.length ≤ s.length; omega, h3⟩, h0, s.drop a, rfl⟩
theorem whN_stop {p : Int → Bool} (hp : p 13 = false) : ∀ (x r : List UInt8), (∀ b ∈ x, p (b.toNat : Int) = true) → whN p (x ++ 13 :: r) = x.length
  | [], r, _ => by show (bif p 13 then _ else 0) = 0; rw [hp]; rfl
  | b :: x, r, h => by
    show (bif p (b.toNat : Int) then whN p (x ++ 13 :: r) + 1 else 0) = x.length + 1
    rw [h b (by simp), whN_stop hp x r (fun c hc => h c (by simp [hc]))]; rfl
theorem sg_self (r : List UInt8) : ∀ x ∈ sgns, sgF (x ++ 13 :: r) sgns = (4, x) := by
  simp only [sgns, List.forall_mem_cons, List.not_mem_nil, false_imp_iff, implies_true, and_true]
  refine ⟨?_, ?_, ?_, ?_, ?_, ?_, ?_, ?_, ?_, ?_, ?_, ?_, ?_, ?_, ?_, ?_, ?_, ?_, ?_, ?_, ?_, ?_, ?_, ?_, ?_, ?_, ?_, ?_, ?_, ?_⟩ <;> rfl
theorem sg_head : ∀ x ∈ sgns, ∃ c t, x = c :: t ∧ letB (c.toNat : Int) = false ∧ digB (c.toNat : Int) = false ∧ blankB (c.toNat : Int) = false ∧ (c = 47 → t = []) := by
  intro x hx
  have key : sgns.all (fun x => match x with | c :: t => !letB (c.toNat : Int) && !digB (c.toNat : Int) && !blankB (c.toNat : Int) && (c != 47 || t == []) | [] => false) = true := by decide
  have := List.all_eq_true.1 key x hx
  cases x with
  | nil => cases this
  | cons c t =>
    simp only [Bool.and_eq_true, Bool.not_eq_true', Bool.or_eq_true] at this
    obtain ⟨⟨⟨h1, h2⟩, h3⟩, h4⟩ := this
    refine ⟨c, t, rfl, h1, h2, h3, fun hc => ?_⟩
    rcases h4 with h4 | h4
    · subst hc; cases h4
    · simpa using h4
theorem let_facts {c : UInt8} (h : letB (c.toNat : Int) = true) : blankB (c.toNat : Int) = false ∧ c ≠ 47 := by
  have key : ∀ n : Fin 256, letB (n.val : Int) = true → blankB (n.val : Int) = false ∧ n.val ≠ 47 := by decide +kernel
  obtain ⟨h1, h2⟩ := key ⟨c.toNat, c.toNat_lt⟩ h
  exact ⟨h1, fun e => h2 (by rw [e]; rfl)⟩
theorem dig_facts {c : UInt8} (h : digB (c.toNat : Int) = true) : blankB (c.toNat : Int) = false ∧ c ≠ 47 ∧ letB (c.toNat : Int) = false := by
  have key : ∀ n : Fin 256, digB (n.val : Int) = true → blankB (n.val : Int) = false ∧ n.val ≠ 47 ∧ letB (n.val : Int) = false := by decide +kernel
  obtain ⟨h1, h2, h3⟩ := key ⟨c.toNat, c.toNat_lt⟩ h
  exact ⟨h1, fun e => h2 (by rw [e]; rfl), h3⟩
/-- A word with a line end behind is read as that word; nothing stands ahead of it. -/
theorem word_again {k : Nat} {x : List UInt8} (h0 : k ≠ 0) {q : List UInt8} (hq : wordF q = (k, x)) (r : List UInt8) : wordF (x ++ 13 :: r) = (k, x) ∧ bl false (x ++ 13 :: r) = 0 := by
  have hbl (c : UInt8) (t : List UInt8) (hb : blankB (c.toNat : Int) = false) (hc : c = 47 → t = []) : bl false (c :: t ++ 13 :: r) = 0 := by
    show (bif blankB (c.toNat : Int) then _ else bif [47, 47].isPrefixOf (c :: (t ++ 13 :: r)) then _ else 0) = 0
    rw [hb, cond_false]
    have : [47, 47].isPrefixOf (c :: (t ++ 13 :: r)) = false := by
      by_cases h47 : c = 47
      · rw [hc h47, h47]; rfl
      · rw [← Bool.not_eq_true]; intro g
        rw [List.isPrefixOf, Bool.and_eq_true, beq_iff_eq] at g
        exact h47 g.1.symm
    rw [this]; rfl
  cases q with
  | nil => rw [show wordF [] = (0, []) from rfl] at hq; exact absurd (Prod.mk.inj hq).1.symm h0
  | cons c t =>
    rw [wordF_cons] at hq
    have take1 (p : Int → Bool) (hp : p (c.toNat : Int) = true) : (c :: t).take (whN p (c :: t)) = c :: t.take (whN p t) := by
      show (c :: t).take (bif p (c.toNat : Int) then whN p t + 1 else 0) = _
      rw [hp]; rfl
    cases hl : letB (c.toNat : Int) with
    | true =>
      rw [hl, cond_true] at hq
      have hn : namB (c.toNat : Int) = true := by unfold namB; rw [hl]; rfl
      split at hq
      · exact absurd (Prod.mk.inj hq).1.symm h0
      · rename_i h64
        obtain ⟨e1, e2⟩ := Prod.mk.inj hq
        have hall := whN_all namB (c :: t)
        rw [e2] at hall
        have hx : x = c :: t.take (whN namB t) := by rw [← e2, take1 namB hn]
        have hlen : x.length = whN namB (c :: t) := by rw [← e2, List.length_take]; exact Nat.min_eq_left (whN_le _ _)
        have hw := whN_stop (p := namB) (by decide) x r hall
        refine ⟨?_, by rw [hx]; exact hbl c _ (let_facts hl).1 (fun e => absurd e (let_facts hl).2)⟩
        have e3 : (x ++ 13 :: r).take (whN namB (x ++ 13 :: r)) = x := by rw [hw]; exact List.take_left
        rw [e2] at e1
        have hcons : x ++ 13 :: r = c :: (t.take (whN namB t) ++ 13 :: r) := by rw [hx]; rfl
        rw [hcons, wordF_cons, hl, cond_true, ← hcons, hw, if_neg (by omega), ← hw, e3, e1]
    | false =>
      rw [hl, cond_false] at hq
      cases hd : digB (c.toNat : Int) with
      | true =>
        rw [hd, cond_true] at hq
        cases hnm : numB ((c :: t).take (whN digB (c :: t))) with
        | false => rw [hnm] at hq; exact absurd (Prod.mk.inj hq).1.symm h0
        | true =>
          rw [hnm, cond_true] at hq
          obtain ⟨e1, e2⟩ := Prod.mk.inj hq
          have hall := whN_all digB (c :: t)
          rw [e2] at hall hnm
          have hx : x = c :: t.take (whN digB t) := by rw [← e2, take1 digB hd]
          have hw := whN_stop (p := digB) (by decide) x r hall
          refine ⟨?_, by rw [hx]; exact hbl c _ (dig_facts hd).1 (fun e => absurd e (dig_facts hd).2.1)⟩
          have e3 : (x ++ 13 :: r).take (whN digB (x ++ 13 :: r)) = x := by rw [hw]; exact List.take_left
          have hcons : x ++ 13 :: r = c :: (t.take (whN digB t) ++ 13 :: r) := by rw [hx]; rfl
          rw [hcons, wordF_cons, hl, hd, cond_false, cond_true, ← hcons, e3, hnm, e1]; rfl
      | false =>
        rw [hd, cond_false] at hq
        rcases sgF_ok (c :: t) sgns sgns_ne with h1 | ⟨h1, h2, _⟩
        · rw [hq] at h1; exact absurd h1 h0
        · rw [hq] at h1 h2
          dsimp only at h1 h2
          obtain ⟨c', t', rfl, g1, g2, g3, g4⟩ := sg_head x h2
          refine ⟨?_, hbl c' t' g3 g4⟩
          show wordF (c' :: (t' ++ 13 :: r)) = (k, c' :: t')
          rw [wordF_cons, g1, g2, cond_false, cond_false]
          show sgF (c' :: t' ++ 13 :: r) sgns = _
          rw [sg_self r _ h2, h1]
/-- What stands ahead of each word: a remark, a line's end and blanks. -/
def sepB (gap : List UInt8) : List UInt8 := 47 :: 47 :: (gap ++ [10, 32, 9])
/-- Words, each with a remark ahead of it. -/
def catB (gap : List UInt8) : List Wd → List UInt8
  | [] => []
  | w :: r => sepB gap ++ (w.2.1 ++ 13 :: 10 :: catB gap r)
theorem catB_app (gap : List UInt8) : ∀ (a b : List Wd), catB gap (a ++ b) = catB gap a ++ catB gap b
  | [], b => rfl
  | w :: r, b => by show sepB gap ++ (w.2.1 ++ 13 :: 10 :: catB gap (r ++ b)) = sepB gap ++ (w.2.1 ++ 13 :: 10 :: catB gap r) ++ catB gap b; rw [catB_app gap r b]; simp
theorem bl_gap : ∀ (gap r : List UInt8), (∀ b ∈ gap, b ≠ 10) → bl true (gap ++ 10 :: r) = gap.length + 1 + bl false r
  | [], r, _ => by show (bif nlB ((10 : UInt8).toNat : Int) then _ else bl false r + 1) = _; rw [show nlB ((10 : UInt8).toNat : Int) = false by decide]; simp only [cond_false, List.length_nil]; omega
  | b :: g, r, h => by
    show (bif nlB (b.toNat : Int) then bl true (g ++ 10 :: r) + 1 else _) = _
    have hb : nlB (b.toNat : Int) = true := by
      have h1 := h b (by simp)
      have key : ∀ n : Fin 256, n.val ≠ 10 → nlB (n.val : Int) = true := by decide +kernel
      exact key ⟨b.toNat, b.toNat_lt⟩ (fun e => h1 (by rw [← UInt8.toNat_inj]; exact e))
    rw [hb, cond_true, bl_gap g r (fun c hc => h c (by simp [hc])), List.length_cons]; omega
theorem bl_blank {c : UInt8} (hc : blankB (c.toNat : Int) = true) (r : List UInt8) : bl false (c :: r) = bl false r + 1 := by conv => lhs; unfold bl; rw [hc, cond_true]
theorem bl_sep {gap : List UInt8} (hg : ∀ b ∈ gap, b ≠ 10) (r : List UInt8) : bl false (sepB gap ++ r) = gap.length + 5 + bl false r := by
  have e : sepB gap ++ r = 47 :: 47 :: (gap ++ 10 :: (32 :: 9 :: r)) := by unfold sepB; simp
  rw [e, bl_rem (by rfl)]
  have h1 : bl true (47 :: 47 :: (gap ++ 10 :: (32 :: 9 :: r))) = bl true (gap ++ 10 :: (32 :: 9 :: r)) + 1 + 1 := by
    conv => lhs; unfold bl; rw [show nlB ((47 : UInt8).toNat : Int) = true by decide, cond_true]; unfold bl; rw [show nlB ((47 : UInt8).toNat : Int) = true by decide, cond_true]
  rw [h1, bl_gap _ _ hg, bl_blank (by decide), bl_blank (by decide)]; omega
/-- The words again, where they stand now. -/
def movB (g : Nat) : Nat → List Wd → List Wd
  | _, [] => []
  | a, w :: r => (w.1, w.2.1, a) :: movB g (a + w.2.1.length + (g + 7)) r
def tlB (gap : List UInt8) (ws : List Wd) : List UInt8 := catB gap ws ++ (sepB gap ++ [13, 10])
theorem tlB_cons (gap : List UInt8) (w : Wd) (r : List Wd) : tlB gap (w :: r) = sepB gap ++ (w.2.1 ++ 13 :: 10 :: tlB gap r) := by
  unfold tlB
  show sepB gap ++ (w.2.1 ++ 13 :: 10 :: catB gap r) ++ _ = _
  simp
theorem bl_tl {gap : List UInt8} (hg : ∀ b ∈ gap, b ≠ 10) : ∀ (ws : List Wd), (∀ w ∈ ws, WdOk w) → bl false (tlB gap ws) = gap.length + 5 + if ws = [] then 2 else 0
  | [], _ => by
    show bl false (sepB gap ++ [13, 10]) = _
    rw [bl_sep hg, if_pos rfl]; rfl
  | w :: r, h => by
    obtain ⟨h0, q, hq⟩ := h w (by simp)
    rw [tlB_cons, bl_sep hg, (word_again h0 hq _).2, if_neg (by simp)]
theorem cut_catB {gap : List UInt8} (hg : ∀ b ∈ gap, b ≠ 10) {t : List UInt8} : ∀ (ws : List Wd) (p : List UInt8) (acc : List Wd), (∀ w ∈ ws, WdOk w) → ws ≠ [] → t = p ++ tlB gap ws → cut t (p.length + (gap.length + 5)) acc = (acc ++ movB gap.length (p.length + (gap.length + 5)) ws, none)
  | [], _, _, _, h, _ => absurd rfl h
  | w :: r, p, acc, h, _, ht => by
    obtain ⟨h0, q, hq⟩ := h w (by simp)
    have hr : ∀ w ∈ r, WdOk w := fun v hv => h v (by simp [hv])
    have hsl : (sepB gap).length = gap.length + 5 := by unfold sepB; simp
    have hP : (p ++ sepB gap).length = p.length + (gap.length + 5) := by rw [List.length_append, hsl]
    have ht1 : t = (p ++ sepB gap) ++ (w.2.1 ++ 13 :: 10 :: tlB gap r) := by rw [ht, tlB_cons]; simp
    have hd : t.drop (p.length + (gap.length + 5)) = w.2.1 ++ 13 :: 10 :: tlB gap r := by rw [← hP, ht1, List.drop_left]
    have hw := word_again h0 hq (10 :: tlB gap r)
    have hwa : wAt t (p.length + (gap.length + 5)) = (w.1, w.2.1) := by show wordF (t.drop _) = _; rw [hd, hw.1]
    have hlt : p.length + (gap.length + 5) < t.length := by rw [← hP, ht1]; simp only [List.length_append, List.length_cons]; omega
    have hne : (wAt t (p.length + (gap.length + 5))).1 ≠ 0 := by rw [hwa]; exact h0
    have ht2 : t = (p ++ sepB gap ++ w.2.1 ++ [13, 10]) ++ tlB gap r := by rw [ht1]; simp
    have hd2 : t.drop (p.length + (gap.length + 5) + w.2.1.length) = 13 :: 10 :: tlB gap r := by rw [← List.drop_drop, hd, List.drop_left]
    have hn : nxt t (p.length + (gap.length + 5)) = p.length + (gap.length + 5) + w.2.1.length + (bl false (tlB gap r) + 2) := by
      unfold nxt
      rw [hwa]
      show p.length + (gap.length + 5) + w.2.1.length + bl false (t.drop (p.length + (gap.length + 5) + w.2.1.length)) = _
      rw [hd2, bl_blank (by decide), bl_blank (by decide)]
    have hl : (p ++ sepB gap ++ w.2.1 ++ [13, 10]).length = p.length + (gap.length + 5) + w.2.1.length + 2 := by simp only [List.length_append, hsl, List.length_cons, List.length_nil]
    rw [cut_step hlt hne, hwa, hn, bl_tl hg r hr]
    by_cases hr0 : r = []
    · subst hr0
      rw [if_pos rfl, cut_end (by rw [ht2, List.length_append, hl]; show _ + (sepB gap ++ [13, 10]).length ≤ _; rw [List.length_append, hsl]; simp only [List.length_cons, List.length_nil]; omega)]
      rfl
    · rw [if_neg hr0]
      have := cut_catB hg r (p ++ sepB gap ++ w.2.1 ++ [13, 10]) (acc ++ [(w.1, w.2.1, p.length + (gap.length + 5))]) hr hr0 ht2
      rw [hl] at this
      rw [show p.length + (gap.length + 5) + w.2.1.length + (gap.length + 5 + 0 + 2) = p.length + (gap.length + 5) + w.2.1.length + 2 + (gap.length + 5) by omega]
      refine this.trans ?_
      rw [List.append_assoc, show p.length + (gap.length + 5) + w.2.1.length + 2 + (gap.length + 5) = p.length + (gap.length + 5) + w.2.1.length + (gap.length + 7) by omega]
      rfl
/-- Written with remarks between, the words are the same. -/
theorem cut_movB {gap : List UInt8} (hg : ∀ b ∈ gap, b ≠ 10) (s : List UInt8) (ws : List Wd) (h : ∀ w ∈ ws, WdOk w) : cutAll (catB gap (endW s ws)) = (movB gap.length (gap.length + 5) ws, none) := by
  have e : catB gap (endW s ws) = tlB gap ws := by unfold endW tlB; rw [catB_app]; show catB gap ws ++ (sepB gap ++ ([] ++ 13 :: 10 :: [])) = _; simp
  rw [e]
  unfold cutAll
  rw [bl_tl hg ws h]
  by_cases h0 : ws = []
  · subst h0
    rw [if_pos rfl, cut_end (by show (sepB gap ++ [13, 10]).length ≤ _; unfold sepB; simp)]; rfl
  · rw [if_neg h0]
    have := cut_catB (t := tlB gap ws) hg ws [] [] h h0 rfl
    rw [List.length_nil, Nat.zero_add] at this
    exact this
theorem movB_len (g : Nat) : ∀ (ws : List Wd) (a : Nat), (movB g a ws).length = ws.length
  | [], _ => rfl
  | w :: r, a => by show (movB g _ r).length + 1 = r.length + 1; rw [movB_len g r]
theorem movB_at (g : Nat) : ∀ (ws : List Wd) (a i : Nat) (h : i < ws.length) (h' : i < (movB g a ws).length), (movB g a ws)[i].1 = ws[i].1 ∧ (movB g a ws)[i].2.1 = ws[i].2.1
  | w :: r, a, 0, _, _ => ⟨rfl, rfl⟩
  | w :: r, a, i + 1, h, h' => movB_at g r _ i (by simpa using h) (by simpa [movB] using h')
end Lx
/-- The law's calls: awake, the reference's words, Parse, tree.Same. -/
noncomputable def cE (a : List UInt8) (W : List Lx.Wd) (ar : List Value) : Option (Bool × Value) := match ar with
  | [.string s] => some (tst (s.data.toList = a), .tuple ⟨[Lx.okV W, .int .i64 (-1)]⟩)
  | _ => none
noncomputable def cN (a : List UInt8) (n : Nat) (ar : List Value) : Option (Bool × Value) := match ar with
  | [.string s] => some (tst (s.data.toList = a), .tuple ⟨[.slice none 0 0, .int .i64 (n : Nat)]⟩)
  | _ => none
noncomputable abbrev B5 (f : List UInt8 → PR) (c : List Value → Option (Bool × Value)) : TabF := andG 6 aw6 <| andG 10 c <| andG 7 (pE f) <| andG 11 sE noG
abbrev tsG : List Nat := [0, 1, 4, 5]
abbrev tsT : List Nat := [0, 1, 4, 6, 8, 9]
abbrev gT0 (a g : List UInt8) (v : Value) (i : Int) : List Value := [st a, st g, v, iv i]
abbrev tT0 (a g : List UInt8) (W : List Lx.Wd) (t : List UInt8) (i : Int) : List Value := [st a, st g, .bool false, Lx.okV W, st t, iv i]
noncomputable abbrev nB5 (k : Nat) (ts : List Nat) (vs : List Value) : Option (XA × List Value × AH × Nat) := bodyRunK Tryd.prog (glV Lx.lq) (nA noG) (nK noG) noLK (loopN Tryd.f5 k) (stT ts vs 88 (hV Lx.lq)) ts
noncomputable abbrev RB5 (F : TabF) (x : XA) (a g : List UInt8) (v : Value) (i : Int) (W : List Lx.Wd) (T : List UInt8) := runQ Tryd.prog Lx.lq (nA F) (nK F) (lkV Lx.lq 6 tsG (gT0 a g (.bool false) ((0 : Nat) : Int)) (gT0 a g v i) 88 x (lkV Lx.lq 15 tsT (tT0 a g W [] ((0 : Nat) : Int)) (tT0 a g W T (W.length : Nat)) 88 (.exit 2) noLK)) 1 Tryd.f5 [st a, st g]
namespace Lx
theorem wCs_at : ∀ (W : List Wd) (i : Nat) (h : i < W.length), (wCs W)[i * 3]? = some (iv ((W[i]).1 : Nat)) ∧ (wCs W)[i * 3 + 1]? = some (st (W[i]).2.1) ∧ (wCs W)[i * 3 + 2]? = some (iv ((W[i]).2.2 : Nat))
  | w :: r, 0, _ => ⟨rfl, rfl, rfl⟩
  | w :: r, i + 1, h => by
    obtain ⟨h1, h2, h3⟩ := wCs_at r i (by simpa using h)
    refine ⟨?_, ?_, ?_⟩
    · rw [show (i + 1) * 3 = i * 3 + 1 + 1 + 1 by omega]; exact h1
    · rw [show (i + 1) * 3 + 1 = i * 3 + 1 + 1 + 1 + 1 by omega]; exact h2
    · rw [show (i + 1) * 3 + 2 = i * 3 + 2 + 1 + 1 + 1 by omega]; exact h3
theorem isStr_of {cs : List Value} {i : Nat} {x : List UInt8} (h : cs[i]? = some (st x)) : isStr cs i = true ∧ strAt cs i = ⟨⟨x⟩⟩ := by
  unfold isStr strAt; rw [h]; exact ⟨rfl, rfl⟩
end Lx
abbrev bT5 : Option Value := some (.bool true)
abbrev bF5 : Option Value := some (.bool false)
theorem tg0 (a g : List UInt8) (v : Value) (i : Int) : nB5 0 tsG (gT0 a g v i) = bif decide (i < (g.length : Int)) then bif decide (0 ≤ i) then bif Nat.ble (Int.toNat i + 1) g.length then bif byteAt g (Int.toNat i) == 10 then some (.ret, gT0 a g (.bool true) i, hV Lx.lq, 88) else some (.normal, gT0 a g v (IntKind.wrap .i64 (i + 1)), hV Lx.lq, 88) else none else none else some (.exit 0, gT0 a g v i, hV Lx.lq, 88) := by kernel_rfl
abbrev wT5 (W : List Lx.Wd) (i : Int) : List UInt8 := (strAt (Lx.wCs W) (0 + Int.toNat i * 3 + 1)).data.toList
theorem tg1 (a g : List UInt8) (W : List Lx.Wd) (t : List UInt8) (i : Int) : nB5 1 tsT (tT0 a g W t i) = bif decide (i < (W.length : Int)) then bif ov (t.length + 2) then none else bif ov ((t ++ [47, 47]).length + g.length) then none else bif ov ((t ++ [47, 47] ++ g).length + 3) then none else bif decide (0 ≤ i) && decide (i < (W.length : Int)) then bif isStr (Lx.wCs W) (0 + Int.toNat i * 3 + 1) then bif ov ((t ++ [47, 47] ++ g ++ [10, 32, 9]).length + (wT5 W i).length) then none else bif ov ((t ++ [47, 47] ++ g ++ [10, 32, 9] ++ wT5 W i).length + 2) then none else
  some (.normal, tT0 a g W (t ++ [47, 47] ++ g ++ [10, 32, 9] ++ wT5 W i ++ [13, 10]) (IntKind.wrap .i64 (i + 1)), hV Lx.lq, 88) else none else none else some (.exit 2, tT0 a g W t i, hV Lx.lq, 88) := by kernel_rfl
noncomputable abbrev hS (a g : List UInt8) (x : Option Value) : Option Value := bif Lx.tE then bif decide ((a.length : Int) > 1500) then bT5 else bif decide ((g.length : Int) > 20) then bT5 else x else none
noncomputable abbrev hG (a g : List UInt8) (x : Option Value) : Option Value := bif tst (gT0 a g (.bool false) 0 = gT0 a g (.bool false) ((0 : Nat) : Int) ∧ hV Lx.lq = hV Lx.lq ∧ 88 = 88) then x else none
noncomputable abbrev RG5 (F : TabF) (x : XA) (a g : List UInt8) (v : Value) (i : Int) := runQ Tryd.prog Lx.lq (nA F) (nK F) (lkV Lx.lq 6 tsG (gT0 a g (.bool false) ((0 : Nat) : Int)) (gT0 a g v i) 88 x noLK) 1 Tryd.f5 [st a, st g]
set_option maxRecDepth 100000 in
theorem tg2 (f : List UInt8 → PR) (a g : List UInt8) (i : Int) (W : List Lx.Wd) (T : List UInt8) : RB5 (B5 f (cE a W)) (.exit 0) a g (.bool false) i W T = hS a g (hG a g (bif Lx.tE then bif tst (a = a) then bif tst (tT0 a g W [] 0 = tT0 a g W [] ((0 : Nat) : Int) ∧ hV Lx.lq = hV Lx.lq ∧ 88 = 88) then bif decide ((T.length : Int) > 16384) then bT5 else bif Lx.tE then bif tst (P7 a (f a)) then bif Lx.tE then bif tst (P7 T (f T)) then bif (f a).e == (f T).e then bif (f a).e != 0 then bT5 else bif Lx.tE then bif tst (GVal (kv (f a).ks)) then bif tst (GVal (kv (f T).ks)) then
  bif tst (IntKind.i64 = IntKind.i64 ∧ IntKind.i64 = IntKind.i64 ∧ kv (f a).ks = kv (unN (flatN (f a).ks)) ∧ kv (f T).ks = kv (unN (flatN (f T).ks)) ∧ Q11 (unN (flatN (f a).ks))) then bif (f a).s.data.toList == (f T).s.data.toList && ((f a).t.data.toList == (f T).t.data.toList && eqN (unN (flatN (f a).ks)) (unN (flatN (f T).ks))) then bT5 else bF5 else none else none else none else none else bF5 else none else none else none else none else none else none else none)) := by kernel_rfl
theorem tg3 (f : List UInt8 → PR) (n : Nat) (a g : List UInt8) (i : Int) : RG5 (B5 f (cN a n)) (.exit 0) a g (.bool false) i = hS a g (hG a g (bif Lx.tE then bif tst (a = a) then bT5 else none else none)) := by kernel_rfl
theorem tg4 (f : List UInt8 → PR) (c : List Value → Option (Bool × Value)) (a g : List UInt8) (i : Int) : RG5 (B5 f c) .ret a g (.bool true) i = hS a g (hG a g bT5) := by kernel_rfl
theorem tg5 (f : List UInt8 → PR) (c : List Value → Option (Bool × Value)) (a g : List UInt8) : runQ Tryd.prog Lx.lq (nA (B5 f c)) (nK (B5 f c)) noLK 1 Tryd.f5 [st a, st g] = hS a g none := by kernel_rfl
theorem loops5 : loopsOf (bodyOf Tryd.f5) = [loopN Tryd.f5 0, loopN Tryd.f5 1] := by kernel_rfl
theorem isR5 : (isReg 6 (loopN Tryd.f5 1), isReg 15 (loopN Tryd.f5 0)) = (false, false) := by kernel_rfl
def gF5 (a g : List UInt8) (i : Nat) : XA × List Value := if i = g.length then (.exit 0, gT0 a g (.bool false) (i : Nat)) else (.ret, gT0 a g (.bool true) (i : Nat))
theorem gap_loop {a g : List UInt8} (hg : g.length ≤ 1000) : LoopTri Tryd.prog (glV Lx.lq) (hV Lx.lq) (loopN Tryd.f5 0) (stT tsG (gT0 a g (.bool false) ((0 : Nat) : Int)) 88 (hV Lx.lq)) (gF5 a g (0 + Lx.whN Lx.nlB (g.drop 0))).1 (stT tsG (gF5 a g (0 + Lx.whN Lx.nlB (g.drop 0))).2 88 (hV Lx.lq)) := by
  refine loop_plainO hmix (nA_ok noQ_ok) (nK_ok noG) noLK_ok noLO_ok (c := loopN Tryd.f5 0) tsG (X := {i : Nat // i ≤ g.length}) (fun i => gT0 a g (.bool false) (i.1 : Nat)) (fun i => g.length - i.1) (fun i => gF5 a g (i.1 + Lx.whN Lx.nlB (g.drop i.1))) (fun ⟨i, hi⟩ => ?_) ⟨0, Nat.zero_le _⟩
  dsimp only
  have h := tg0 a g (.bool false) (i : Nat)
  by_cases hlt : i < g.length
  · have hd := Lx.drop_cons hlt
    rw [decide_eq_true (show (i : Int) < (g.length : Int) by omega), decide_eq_true (show (0 : Int) ≤ i by omega), Nat.ble_eq_true_of_le (show Int.toNat (i : Int) + 1 ≤ g.length by omega), Lx.byte_at hlt] at h
    simp only [cond_true] at h
    cases hb : Lx.nlB ((g[i]).toNat : Int) with
    | true =>
      have hb' : (((g[i]).toNat : Int) == 10) = false := by simpa [Lx.nlB] using hb
      rw [hb', cond_false, i64w1 (by omega)] at h
      refine ⟨_, _, h, .inl ⟨rfl, ⟨i + 1, hlt⟩, rfl, by dsimp only; omega, ?_⟩⟩
      dsimp only
      have e : Lx.whN Lx.nlB (g.drop i) = Lx.whN Lx.nlB (g.drop (i + 1)) + 1 := by rw [hd]; conv => lhs; unfold Lx.whN; rw [hb, cond_true]
      rw [e, show i + 1 + Lx.whN Lx.nlB (g.drop (i + 1)) = i + (Lx.whN Lx.nlB (g.drop (i + 1)) + 1) by omega]
    | false =>
      have hb' : (((g[i]).toNat : Int) == 10) = true := by simpa [Lx.nlB] using hb
      rw [hb', cond_true] at h
      refine ⟨_, _, h, .inr ⟨by simp, ?_⟩⟩
      have e : Lx.whN Lx.nlB (g.drop i) = 0 := by rw [hd]; conv => lhs; unfold Lx.whN; rw [hb, cond_false]
      rw [e, Nat.add_zero, gF5, if_neg (by omega)]
  · obtain rfl : i = g.length := by omega
    rw [decide_eq_false (Int.lt_irrefl _)] at h
    refine ⟨_, _, h, .inr ⟨by simp, ?_⟩⟩
    rw [List.drop_length, gF5, if_pos (by rfl)]; rfl
theorem ov9 {n : Nat} (h : n ≤ 1000000000) : ov n = false := by
  have : IntKind.i64.max = 9223372036854775807 := by decide
  unfold ov; rw [this]; exact decide_eq_false (by omega)
theorem cat_take {g : List UInt8} {W : List Lx.Wd} {i : Nat} (h : i < W.length) : Lx.catB g (W.take (i + 1)) = Lx.catB g (W.take i) ++ [47, 47] ++ g ++ [10, 32, 9] ++ (W[i]).2.1 ++ [13, 10] := by
  rw [List.take_succ_eq_append_getElem h, Lx.catB_app]
  show _ ++ (Lx.sepB g ++ ((W[i]).2.1 ++ 13 :: 10 :: [])) = _
  unfold Lx.sepB
  simp
theorem catB_len {g : List UInt8} (hg : g.length ≤ 20) : ∀ {W : List Lx.Wd}, (∀ w ∈ W, w.2.1.length ≤ 1500) → (Lx.catB g W).length ≤ W.length * 1530
  | [], _ => Nat.zero_le _
  | w :: r, h => by
    have h1 := catB_len hg (W := r) (fun v hv => h v (by simp [hv]))
    have h2 := h w (by simp)
    have h3 : (Lx.sepB g).length = g.length + 5 := by unfold Lx.sepB; simp
    show (Lx.sepB g ++ (w.2.1 ++ 13 :: 10 :: Lx.catB g r)).length ≤ (r.length + 1) * 1530
    simp only [List.length_append, List.length_cons, h3]
    omega
theorem text_loop {a g : List UInt8} {W : List Lx.Wd} (hg : g.length ≤ 20) (hl : W.length ≤ 2000) (hW : ∀ w ∈ W, w.2.1.length ≤ 1500) : LoopTri Tryd.prog (glV Lx.lq) (hV Lx.lq) (loopN Tryd.f5 1) (stT tsT (tT0 a g W [] ((0 : Nat) : Int)) 88 (hV Lx.lq)) (.exit 2) (stT tsT (tT0 a g W (Lx.catB g W) (W.length : Nat)) 88 (hV Lx.lq)) := by
  refine loop_plainO hmix (nA_ok noQ_ok) (nK_ok noG) noLK_ok noLO_ok (c := loopN Tryd.f5 1) tsT (X := {i : Nat // i ≤ W.length}) (fun i => tT0 a g W (Lx.catB g (W.take i.1)) (i.1 : Nat)) (fun i => W.length - i.1) (fun _ => (.exit 2, tT0 a g W (Lx.catB g W) (W.length : Nat))) (fun ⟨i, hi⟩ => ?_) ⟨0, Nat.zero_le _⟩
  dsimp only
  have h := tg1 a g W (Lx.catB g (W.take i)) (i : Nat)
  by_cases hlt : i < W.length
  · obtain ⟨_, h2, _⟩ := Lx.wCs_at W i hlt
    have hw := hW _ (List.getElem_mem hlt)
    have hc := catB_len hg (W := W.take i) (fun w hw => hW w (List.mem_of_mem_take hw))
    rw [List.length_take] at hc
    have hc' : (Lx.catB g (W.take i)).length ≤ 4000000 := by omega
    have e1 : 0 + Int.toNat (i : Int) * 3 + 1 = i * 3 + 1 := by rw [Int.toNat_natCast, Nat.zero_add]
    have e2 : wT5 W (i : Int) = (W[i]).2.1 := by unfold wT5; rw [e1, (Lx.isStr_of h2).2]
    rw [e2, e1, (Lx.isStr_of h2).1, decide_eq_true (show (i : Int) < (W.length : Int) by omega), decide_eq_true (show (0 : Int) ≤ i by omega)] at h
    have l1 : ([47, 47] : List UInt8).length = 2 := rfl
    have l2 : ([10, 32, 9] : List UInt8).length = 3 := rfl
    rw [ov9 (by omega), ov9 (by simp only [List.length_append, l1]; omega), ov9 (by simp only [List.length_append, l1]; omega), ov9 (by simp only [List.length_append, l1, l2]; omega), ov9 (by simp only [List.length_append, l1, l2]; omega), i64w1 (by omega), ← cat_take hlt] at h
    exact ⟨_, _, h, .inl ⟨rfl, ⟨i + 1, hlt⟩, rfl, by dsimp only; omega, rfl⟩⟩
  · obtain rfl : i = W.length := by omega
    rw [decide_eq_false (Int.lt_irrefl _), List.take_length] at h
    refine ⟨_, _, by rw [List.take_length]; exact h, .inr ⟨by simp, rfl⟩⟩
theorem whN_full : ∀ {g : List UInt8}, Lx.whN Lx.nlB g = g.length → ∀ b ∈ g, b ≠ 10
  | [], _, _, h => by cases h
  | c :: r, h, b, hb => by
    unfold Lx.whN at h
    cases hc : Lx.nlB (c.toNat : Int) with
    | false => rw [hc] at h; cases h
    | true =>
      rw [hc, cond_true, List.length_cons] at h
      rcases List.mem_cons.1 hb with rfl | hb
      · intro e; rw [e] at hc; revert hc; decide
      · exact whN_full (Nat.succ.inj h) b hb
/-- The same words give the same rows, but for places. -/
theorem rd_same {W V : List Lx.Wd} (hlen : V.length = W.length) (heq : ∀ i (h : i < W.length) (h' : i < V.length), (V[i]).1 = (W[i]).1 ∧ (V[i]).2.1 = (W[i]).2.1) : LR (wL W) (wL V) := by
  have key : ∀ i : Nat, (match (wL V)[i]? with | some x => x.k | none => 0) = (match (wL W)[i]? with | some x => x.k | none => 0) ∧ (match (wL V)[i]? with | some x => x.s | none => (⟨⟨[]⟩⟩ : ByteArray)) = (match (wL W)[i]? with | some x => x.s | none => ⟨⟨[]⟩⟩) := by
    intro i
    by_cases h : i < W.length
    · have h' : i < V.length := by omega
      obtain ⟨h1, h2⟩ := heq i h h'
      have e1 : (wL W)[i]? = some ⟨((W[i]).1 : Nat), ⟨⟨(W[i]).2.1⟩⟩, ((W[i]).2.2 : Nat)⟩ := by unfold wL; rw [List.getElem?_map, List.getElem?_eq_getElem h]; rfl
      have e2 : (wL V)[i]? = some ⟨((V[i]).1 : Nat), ⟨⟨(V[i]).2.1⟩⟩, ((V[i]).2.2 : Nat)⟩ := by unfold wL; rw [List.getElem?_map, List.getElem?_eq_getElem h']; rfl
      rw [e1, e2]
      dsimp only
      rw [h1, h2]
      exact ⟨rfl, rfl⟩
    · have e1 : (wL W)[i]? = none := List.getElem?_eq_none (by rw [wL_len]; omega)
      have e2 : (wL V)[i]? = none := List.getElem?_eq_none (by rw [wL_len]; omega)
      rw [e1, e2]; exact ⟨rfl, rfl⟩
  exact ⟨by rw [wL_len, wL_len]; exact hlen, funext fun i => (key i.toNat).1, funext fun i => (key i.toNat).2⟩
theorem endW_same {a t : List UInt8} {W V : List Lx.Wd} (hlen : V.length = W.length) (heq : ∀ i (h : i < W.length) (h' : i < V.length), (V[i]).1 = (W[i]).1 ∧ (V[i]).2.1 = (W[i]).2.1) : LR (wL (Lx.endW a W)) (wL (Lx.endW t V)) := by
  refine rd_same (by unfold Lx.endW; simp [hlen]) fun i h h' => ?_
  unfold Lx.endW at h h' ⊢
  by_cases hi : i < W.length
  · rw [List.getElem_append_left hi, List.getElem_append_left (by omega)]
    exact heq i hi _
  · have e1 : i = W.length := by simp at h; omega
    rw [List.getElem_append_right (by omega), List.getElem_append_right (by omega)]
    simp [hlen, e1]
theorem lok_end (a : List UInt8) {W : List Lx.Wd} (h : W.length ≤ 20000) : LOk (wL (Lx.endW a W)) := by
  have hl : (wL (Lx.endW a W)).length = W.length + 1 := by rw [wL_len]; unfold Lx.endW; simp
  refine ⟨by omega, by omega, ?_⟩
  rw [hl]
  show (match (wL (Lx.endW a W))[Int.toNat (((W.length + 1 : Nat) : Int) - 1)]? with | some x => x.k | none => 0) = 0
  rw [show Int.toNat (((W.length + 1 : Nat) : Int) - 1) = W.length by omega]
  have : (wL (Lx.endW a W))[W.length]? = some ⟨0, ⟨⟨[]⟩⟩, (a.length : Nat)⟩ := by unfold wL Lx.endW; rw [List.getElem?_map, List.getElem?_append_right (Nat.le_refl _)]; simp
  rw [this]
theorem B5_ok (f : List UInt8 → PR) {c : List Value → Option (Bool × Value)} (hc : ∀ ar v, c ar = some (true, v) → ConQ Tryd.prog Lx.lq 10 ar v) : TabQ Tryd.prog Lx.lq (B5 f c) := by
  refine andQ_ok Tryd.func6 rfl (by kernel_rfl) (fun ar v h => ?_) (andQ_ok Tryd.func10 rfl (by kernel_rfl) hc (andQ_ok Tryd.func7 rfl (by kernel_rfl) (fun ar v h => ?_) GS_ok))
  · unfold aw6 at h
    split at h
    · cases h; exact awake_con
    · cases h
  · unfold pE at h
    split at h
    · rename_i s
      simp only [Option.some.injEq, Prod.mk.injEq] at h
      obtain ⟨ht, rfl⟩ := h
      exact of_tst ht
    · cases h
theorem cE_con {a : List UInt8} {ws : List Lx.Wd} (hs : a.length ≤ 16384) (hc : Lx.cutAll a = (ws, none)) (ar : List Value) (v : Value) (h : cE a (Lx.endW a ws) ar = some (true, v)) : ConQ Tryd.prog Lx.lq 10 ar v := by
  unfold cE at h
  split at h
  · rename_i s
    simp only [Option.some.injEq, Prod.mk.injEq] at h
    obtain ⟨ht, rfl⟩ := h
    have e := of_tst ht
    obtain ⟨⟨l⟩⟩ := s
    dsimp only at e
    subst e
    have := Lx.rcut_con hs
    rw [hc] at this
    exact this
  · cases h
theorem cN_con {a : List UInt8} {ws : List Lx.Wd} {n : Nat} (hs : a.length ≤ 16384) (hc : Lx.cutAll a = (ws, some n)) (ar : List Value) (v : Value) (h : cN a n ar = some (true, v)) : ConQ Tryd.prog Lx.lq 10 ar v := by
  unfold cN at h
  split at h
  · rename_i s
    simp only [Option.some.injEq, Prod.mk.injEq] at h
    obtain ⟨ht, rfl⟩ := h
    have e := of_tst ht
    obtain ⟨⟨l⟩⟩ := s
    dsimp only at e
    subst e
    have := Lx.rcut_con hs
    rw [hc] at this
    exact this
  · cases h
def cX (ar : List Value) : Option (Bool × Value) := none
theorem cX_con (ar : List Value) (v : Value) (h : cX ar = some (true, v)) : ConQ Tryd.prog Lx.lq 10 ar v := by cases h
theorem hS_ok {a g : List UInt8} (h1 : a.length ≤ 1500) (h2 : g.length ≤ 20) (x : Option Value) : hS a g x = x := by
  unfold hS; rw [Lx.tE_t, decide_eq_false (by omega), decide_eq_false (by omega)]; rfl
theorem hS_big {a g : List UInt8} (h : ¬ (a.length ≤ 1500 ∧ g.length ≤ 20)) (x : Option Value) : hS a g x = bT5 := by
  unfold hS
  by_cases h1 : a.length ≤ 1500
  · rw [Lx.tE_t, decide_eq_false (show ¬ (a.length : Int) > 1500 by omega), decide_eq_true (show (g.length : Int) > 20 by omega)]; rfl
  · rw [Lx.tE_t, decide_eq_true (show (a.length : Int) > 1500 by omega)]; rfl
theorem hG_ok {a g : List UInt8} (x : Option Value) : hG a g x = x := by unfold hG; rw [tst_of ⟨rfl, rfl, rfl⟩]; rfl
theorem norm_same {r r' : PR} (h : eP r = eP r') : (norm7 r).e = (norm7 r').e ∧ (norm7 r).s = (norm7 r').s ∧ (norm7 r).t = (norm7 r').t ∧ er (norm7 r).ks = er (norm7 r').ks := by
  obtain ⟨b, k, n, s, t, ks, i, d, e, a⟩ := r
  obtain ⟨b', k', n', s', t', ks', i', d', e', a'⟩ := r'
  obtain ⟨_, _, rfl, rfl, _, _, rfl, h8⟩ := ePi h
  unfold norm7
  dsimp only
  cases (e != 0) with
  | true => exact ⟨rfl, rfl, rfl, rfl⟩
  | false => exact ⟨rfl, rfl, rfl, h8⟩
theorem norm_wn {r : PR} (h : WN r) : (norm7 r).ks.len ≤ 4294967296 ∧ WNs (norm7 r).ks := by
  unfold norm7
  cases (r.e != 0) with
  | true => exact ⟨Nat.zero_le _, trivial⟩
  | false => exact h
/-- Both parses. -/
theorem two_same {a g : List UInt8} {ws : List Lx.Wd} (h1 : a.length ≤ 1500) (hg : ∀ b ∈ g, b ≠ 10) (hc : Lx.cutAll a = (ws, none)) (hT : (Lx.catB g (Lx.endW a ws)).length ≤ 16384) :
    ∃ f : List UInt8 → PR, P7 a (f a) ∧ P7 (Lx.catB g (Lx.endW a ws)) (f (Lx.catB g (Lx.endW a ws))) ∧ (f a).e = (f (Lx.catB g (Lx.endW a ws))).e ∧ (f a).s = (f (Lx.catB g (Lx.endW a ws))).s ∧ (f a).t = (f (Lx.catB g (Lx.endW a ws))).t ∧ er (f a).ks = er (f (Lx.catB g (Lx.endW a ws))).ks ∧ ((f a).ks.len ≤ 4294967296 ∧ WNs (f a).ks) := by
  have hin := Lx.words_in a
  rw [hc] at hin
  have hlen : ws.length ≤ a.length := by
    have e : (Lx.cutAll a).1 = ws := by rw [hc]
    rw [← e]
    exact Lx.cut_len _ _ _ (Lx.bl_le a false) (Nat.zero_le _)
  have hcut := Lx.cut_movB hg a ws (fun w hw => (hin w hw).2)
  have hLR := endW_same (a := a) (t := Lx.catB g (Lx.endW a ws)) (W := ws) (V := Lx.movB g.length (g.length + 5) ws) (Lx.movB_len _ _ _) (Lx.movB_at _ _ _)
  obtain ⟨n, r, r', e1, e2, e3⟩ := parse_two hLR (lok_end a (by omega))
  have p1 := P7_norm (by omega) hc e1
  have p2 := P7_norm hT hcut e2
  have w1 := norm_wn (wn_all _ _ _ _ _ _ _ _ r e1)
  have w2 := norm_wn (wn_all _ _ _ _ _ _ _ _ r' e2)
  obtain ⟨q1, q2, q3, q4⟩ := norm_same e3
  generalize Lx.catB g (Lx.endW a ws) = T at p2 hT ⊢
  classical
  by_cases haT : a = T
  · subst haT
    exact ⟨fun _ => norm7 r, p1, p1, rfl, rfl, rfl, rfl, w1⟩
  · refine ⟨fun t => if t = a then norm7 r else norm7 r', ?_⟩
    dsimp only
    rw [if_pos rfl, if_neg (fun e => haT e.symm)]
    exact ⟨p1, p2, q1, q2, q3, q4, w1⟩
theorem blanks_con (a g : List UInt8) : ConQ Tryd.prog Lx.lq 5 [st a, st g] (.bool true) := by
  have rg := isR5
  simp only [Prod.mk.injEq] at rg
  let f0 : List UInt8 → PR := fun _ => ⟨false, 0, 0, b0, b0, .nil, 0, 0, 0, 0⟩
  by_cases hb : a.length ≤ 1500 ∧ g.length ≤ 20
  · obtain ⟨h1, h2⟩ := hb
    have hloop : ∀ (x : XA) (v : Value) (i : Nat), gF5 a g (Lx.whN Lx.nlB g) = (x, gT0 a g v (i : Nat)) → ∀ c ∈ loopsOf (bodyOf Tryd.f5), isReg 6 c = true → LoopTri Tryd.prog (glV Lx.lq) (hV Lx.lq) c (stT tsG (gT0 a g (.bool false) ((0 : Nat) : Int)) 88 (hV Lx.lq)) x (stT tsG (gT0 a g v (i : Nat)) 88 (hV Lx.lq)) := by
      intro x v i e c hc hr
      rw [loops5] at hc
      rcases List.mem_cons.1 hc with rfl | hc
      · have := gap_loop (a := a) (g := g) (by omega)
        rw [List.drop_zero, Nat.zero_add, e] at this
        exact this
      · rw [List.mem_singleton.1 hc, rg.1] at hr; cases hr
    by_cases hfull : Lx.whN Lx.nlB g = g.length
    · have hg := whN_full hfull
      have e5 : gF5 a g (Lx.whN Lx.nlB g) = (.exit 0, gT0 a g (.bool false) ((Lx.whN Lx.nlB g : Nat) : Int)) := by unfold gF5; rw [if_pos hfull]
      cases ho : Lx.cutAll a with
      | mk ws o =>
        cases o with
        | some n =>
          refine conQ hmix (nA_ok (B5_ok f0 (cN_con (by omega) ho))) (nK_ok _) (lkQ_ok noLK_ok) Tryd.func5 rfl (by kernel_rfl) (loV_ok (hloop _ _ _ e5) noLO_ok) (d := 1) ((tg3 f0 n a g _).trans ?_)
          rw [hS_ok h1 h2, hG_ok, Lx.tE_t, tst_of rfl]; rfl
        | none =>
          have hin := Lx.words_in a
          rw [ho] at hin
          have hlen : ws.length ≤ a.length := by
            have e : (Lx.cutAll a).1 = ws := by rw [ho]
            rw [← e]
            exact Lx.cut_len _ _ _ (Lx.bl_le a false) (Nat.zero_le _)
          have hlW : (Lx.endW a ws).length = ws.length + 1 := by unfold Lx.endW; simp
          have hW : ∀ w ∈ Lx.endW a ws, w.2.1.length ≤ 1500 := by
            intro w hw
            unfold Lx.endW at hw
            rcases List.mem_append.1 hw with hw | hw
            · have := (hin w hw).1.1; omega
            · rw [List.mem_singleton.1 hw]; exact Nat.zero_le _
          have hrun : ∃ f : List UInt8 → PR, RB5 (B5 f (cE a (Lx.endW a ws))) (.exit 0) a g (.bool false) ((Lx.whN Lx.nlB g : Nat) : Int) (Lx.endW a ws) (Lx.catB g (Lx.endW a ws)) = bT5 := by
            by_cases hT : (Lx.catB g (Lx.endW a ws)).length ≤ 16384
            · obtain ⟨f, p1, p2, q1, q2, q3, q4, w1, w2⟩ := two_same h1 hg ho hT
              refine ⟨f, (tg2 f a g _ _ _).trans ?_⟩
              rw [hS_ok h1 h2, hG_ok, Lx.tE_t, tst_of rfl, tst_of ⟨rfl, rfl, rfl⟩, decide_eq_false (by omega), tst_of p1, tst_of p2, q1, beq_self_eq_true, unN_flat, unN_flat, tst_of (kv_g _), tst_of (kv_g _), tst_of ⟨rfl, rfl, rfl, rfl, same_con w1 w2⟩, q2, q3, beq_self_eq_true, beq_self_eq_true, show eqN (f a).ks _ = true from tst_of q4]
              cases ((f (Lx.catB g (Lx.endW a ws))).e != 0) <;> rfl
            · refine ⟨f0, (tg2 f0 a g _ _ _).trans ?_⟩
              rw [hS_ok h1 h2, hG_ok, Lx.tE_t, tst_of rfl, tst_of ⟨rfl, rfl, rfl⟩, decide_eq_true (by omega)]; rfl
          obtain ⟨f, hr⟩ := hrun
          refine conQ hmix (nA_ok (B5_ok f (cE_con (by omega) ho))) (nK_ok _) (lkQ_ok (lkQ_ok noLK_ok)) Tryd.func5 rfl (by kernel_rfl) (loV_ok (hloop _ _ _ e5) (loV_ok (fun c hc hr => ?_) noLO_ok)) (d := 1) hr
          rw [loops5] at hc
          rcases List.mem_cons.1 hc with rfl | hc
          · rw [rg.2] at hr; cases hr
          · rw [List.mem_singleton.1 hc]
            exact text_loop h2 (by omega) hW
    · have e5 : gF5 a g (Lx.whN Lx.nlB g) = (.ret, gT0 a g (.bool true) ((Lx.whN Lx.nlB g : Nat) : Int)) := by unfold gF5; rw [if_neg hfull]
      refine conQ hmix (nA_ok (B5_ok f0 cX_con)) (nK_ok _) (lkQ_ok noLK_ok) Tryd.func5 rfl (by kernel_rfl) (loV_ok (hloop _ _ _ e5) noLO_ok) (d := 1) ((tg4 f0 cX a g _).trans ?_)
      rw [hS_ok h1 h2, hG_ok]
  · refine conQ hmix (nA_ok (B5_ok f0 cX_con)) (nK_ok _) noLK_ok Tryd.func5 rfl (by kernel_rfl) noLO_ok (d := 1) ((tg5 f0 cX a g).trans ?_)
    rw [hS_big hb]
theorem blanks_walk (a g : ByteArray) (w : World) (hw : ∀ x ∈ Lx.lq, RowS w (fun _ => True) x) : Calls Tryd.prog 5 #[.string a, .string g] w fun e w' => e = .returned (.bool true) ∧ Below w.heap.size w w' := by
  obtain ⟨⟨a⟩⟩ := a
  obtain ⟨⟨g⟩⟩ := g
  refine (blanks_con a g w (fun _ => True) #[st a, st g] hw (.cons (.plain _ rfl) (.cons (.plain _ rfl) .nil))).mono ?_
  rintro e w' ⟨c, rfl, hb, hv⟩
  exact ⟨by rw [hv.plainV_eq rfl], hb⟩
theorem rowErr (u : TypeId) (h : Tryd.prog.typeName? 3 u = some "*errors.errorString") : u = 83 :=
  typeName_ptr_named (nm := "errors.errorString") (by rw [show "*" ++ "errors.errorString" = "*errors.errorString" by decide]; kernel_rfl) (by kernel_rfl) (by decide) u (by rw [show "*" ++ "errors.errorString" = "*errors.errorString" by decide]; exact h)
theorem rows_laid {W : World} {text : List UInt8} {r : List (String × DataW Unit)} (h : laidMet Tryd.prog (("strconv.ErrRange", .iface "*errors.errorString" (.ptr (.agg [.lit (.string text)]))) :: r) W) : ∀ x ∈ Lx.lq, RowS W (fun _ => True) x := by
  obtain ⟨a, s, h1, h2, _, _⟩ := laid_sentinel (g := 1) (ti := 61) (tp := 83) (te := 85) (ts := 9) h (by kernel_rfl) (by kernel_rfl) Tryd.underlying61 rowErr Tryd.underlying83 Tryd.underlying85 rfl rfl Tryd.underlying9 (by kernel_rfl) (by kernel_rfl)
  intro x hx
  rw [Lx.lq, List.mem_singleton] at hx
  subst hx
  have hg : Tryd.prog.globalNamed "strconv.ErrRange" = some 1 := by kernel_rfl
  simp only [World.var?, hg, Option.bind_some] at h1
  obtain ⟨ab, ao, asp⟩ := a
  simp only [World.cell?] at h2
  split at h2
  · rename_i c e fz hb
    cases asp with
    | some q => simp at h2
    | none =>
      simp only [Option.isSome_none, Bool.false_eq_true, if_false] at h2
      have hlt := (Array.getElem?_eq_some_iff.1 h2).1
      split at h1
      · rename_i cs e2 fz2 hb2
        have h1' := Option.some.inj h1
        subst h1'
        refine ⟨_, _, _, hb2, rfl, rfl, fun i x y hx hy => ?_⟩
        match i with
        | 0 =>
          cases hx; cases hy
          have := VRel.gptr (μ := muS W fun _ => True) (n := 0) 0 [] ab ao c (muS_some.2 ⟨trivial, e, fz, hb⟩) (by show ao + 0 ≤ c.size; omega) (fun j x y hx => by simp at hx)
          rw [Nat.add_zero] at this
          exact .iface _ _ _ rfl this
        | i + 1 => cases hx
      · cases h1
  · cases h2
end Go.Proofs.YtachednafdmmaaaDoor.AI
