/- The parser. -/
import Derived.Test.YtachednafdmmaaaDoorPT1
import Derived.Test.YtachednafdmmaaaDoorPP4
import Derived.KernelRfl
namespace Go.Proofs.YtachednafdmmaaaDoor.AI
open Go Go.RowKit 
set_option linter.unusedVariables false
set_option linter.unusedSimpArgs false
/-- Trees, but for their places. -/
def er : NL → NL
  | .nil => .nil
  | .cons s t _ k r => .cons s t 0 (er k) (er r)
theorem er_len : ∀ k : NL, (er k).len = k.len
  | .nil => rfl
  | .cons s t n k r => by show (er r).len + 1 = r.len + 1; rw [er_len r]
theorem len_er {a b : NL} (h : er a = er b) : a.len = b.len := by rw [← er_len a, ← er_len b, h]
theorem er_snoc (s t : ByteArray) (n : Int) (c : NL) : ∀ k : NL, er (k.snoc s t n c) = (er k).snoc s t 0 (er c)
  | .nil => rfl
  | .cons s' t' n' k' r' => by show NL.cons s' t' 0 (er k') (er (r'.snoc s t n c)) = .cons s' t' 0 (er k') ((er r').snoc s t 0 (er c)); rw [er_snoc s t n c r']
def eP (r : PR) : PR := ⟨r.b, r.k, 0, r.s, r.t, er r.ks, r.i, r.d, r.e, 0⟩
def eYL (y : YL) : YL := (y.1, y.2.1, 0, er y.2.2.2)
def eYR (y : YR) : YR := (eYL y.1, y.2)
def eSI (s : SI) : SI := (s.1, s.2.1, s.2.2.1, 0)
def eT {Y : Type} (E : Y → Y) (r : Bool × Y × SI) : Bool × Y × SI := (r.1, E r.2.1, eSI r.2.2)
def eQ {Y : Type} (E : Y → Y) (r : Y × SI) : Y × SI := (E r.1, eSI r.2)
theorem rb_bind {A B : Type} {f : A → A} {g : B → B} {m m' : Option A} {k k' : A → Option B} (h : m.map f = m'.map f) (h2 : ∀ r r', f r = f r' → (k r).map g = (k' r').map g) : (ob m k).map g = (ob m' k').map g := by
  cases m with
  | none => cases m' with
    | none => rfl
    | some r' => cases h
  | some r => cases m' with
    | none => cases h
    | some r' => exact h2 r r' (Option.some.inj h)
theorem rb_cond {B : Type} {g : B → B} {c c' : Bool} {x y x' y' : Option B} (hc : c = c') (h1 : x.map g = x'.map g) (h2 : y.map g = y'.map g) : (bif c then x else y).map g = (bif c' then x' else y').map g := by
  subst hc
  cases c with
  | true => exact h1
  | false => exact h2
theorem rb_some {B : Type} {g : B → B} {x x' : B} (h : g x = g x') : (some x).map g = (some x').map g := congrArg some h
theorem ePi {b k n s t ks i d e a b' k' n' s' t' ks' i' d' e' a'} (h : eP ⟨b, k, n, s, t, ks, i, d, e, a⟩ = eP ⟨b', k', n', s', t', ks', i', d', e', a'⟩) : b = b' ∧ k = k' ∧ s = s' ∧ t = t' ∧ i = i' ∧ d = d' ∧ e = e' ∧ er ks = er ks' := by
  unfold eP at h
  simp only [PR.mk.injEq, true_and] at h
  obtain ⟨h1, h2, h3, h4, h5, h6, h7, h8, _⟩ := h
  exact ⟨h1, h2, h3, h4, h6, h7, h8, h5⟩
theorem eLi {s t : ByteArray} {n : Int} {ks : NL} {i d e a : Int} {s' t' : ByteArray} {n' : Int} {ks' : NL} {i' d' e' a' : Int} (h : eQ eYL ((s, t, n, ks), (i, d, e, a)) = eQ eYL ((s', t', n', ks'), (i', d', e', a'))) : s = s' ∧ t = t' ∧ i = i' ∧ d = d' ∧ e = e' ∧ er ks = er ks' := by
  simp only [eQ, eYL, eSI, Prod.mk.injEq, true_and, and_true] at h
  obtain ⟨⟨h1, h2, h3⟩, h4, h5, h6⟩ := h
  exact ⟨h1, h2, h4, h5, h6, h3⟩
theorem eMi {ks : NL} {i d e a : Int} {ks' : NL} {i' d' e' a' : Int} (h : eQ er (ks, (i, d, e, a)) = eQ er (ks', (i', d', e', a'))) : i = i' ∧ d = d' ∧ e = e' ∧ er ks = er ks' := by
  simp only [eQ, eSI, Prod.mk.injEq, true_and, and_true] at h
  obtain ⟨h3, h4, h5, h6⟩ := h
  exact ⟨h4, h5, h6, h3⟩
theorem eRi {s t : ByteArray} {n : Int} {ks : NL} {j i d e a : Int} {s' t' : ByteArray} {n' : Int} {ks' : NL} {j' i' d' e' a' : Int} (h : eQ eYR (((s, t, n, ks), j), (i, d, e, a)) = eQ eYR (((s', t', n', ks'), j'), (i', d', e', a'))) : s = s' ∧ t = t' ∧ i = i' ∧ d = d' ∧ e = e' ∧ er ks = er ks' := by
  simp only [eQ, eYR, eYL, eSI, Prod.mk.injEq, true_and, and_true] at h
  obtain ⟨⟨⟨h1, h2, h3⟩, _⟩, h4, h5, h6⟩ := h
  exact ⟨h1, h2, h4, h5, h6, h3⟩
theorem iter_rel {Y : Type} {E : Y → Y} {step step' : Y → SI → Option (Bool × Y × SI)} (h : ∀ y y' s s', E y = E y' → eSI s = eSI s' → (step y s).map (eT E) = (step' y' s').map (eT E)) : ∀ (m : Nat) (y y' : Y) (s s' : SI), E y = E y' → eSI s = eSI s' → (iterY step m y s).map (eQ E) = (iterY step' m y' s').map (eQ E) := by
  intro m
  induction m with
  | zero => intro y y' s s' _ _; rfl
  | succ m ih =>
    intro y y' s s' hy hs
    unfold iterY
    refine rb_bind (h y y' s s' hy hs) fun r r' hr => ?_
    obtain ⟨b, y1, s1⟩ := r
    obtain ⟨b', y1', s1'⟩ := r'
    simp only [eT, Prod.mk.injEq] at hr
    obtain ⟨rfl, h1, h2⟩ := hr
    refine rb_cond rfl (ih y1 y1' s1 s1' h1 h2) ?_
    refine rb_some ?_
    simp only [eQ, h1, h2]
/-- The same words, elsewhere. -/
structure LR (L L' : List Wd) : Prop where
  len : L'.length = L.length
  k : (rd L').k = (rd L).k
  s : (rd L').s = (rd L).s
theorem LR.has {L L' : List Wd} (h : LR L L') : Rd.has (rd L') = Rd.has (rd L) := by
  funext i
  unfold Rd.has
  show (decide (0 ≤ i) && decide (i < (L'.length : Int))) = (decide (0 ≤ i) && decide (i < (L.length : Int)))
  rw [h.len]
abbrev RelP (L L' : List Wd) (p p' : PF) : Prop := ∀ (g : FuncId) (x : PArg) (i d e a a' : Int), (p g x i d e a).map eP = (p' g x i d e a').map eP
theorem rb_none {B : Type} {g : B → B} : (none : Option B).map g = (none : Option B).map g := rfl
theorem rb_p {B : Type} {g : B → B} {m m' : Option PR} {k k' : PR → Option B} (h : m.map eP = m'.map eP) (h2 : ∀ b kk n s t x i d e a n' x' a', er x = er x' → x.len = x'.len → (k ⟨b, kk, n, s, t, x, i, d, e, a⟩).map g = (k' ⟨b, kk, n', s, t, x', i, d, e, a'⟩).map g) : (ob m k).map g = (ob m' k').map g := by
  refine rb_bind h ?_
  rintro ⟨b, k, n, s, t, x, i, d, e, a⟩ ⟨b', k', n', s', t', x', i', d', e', a'⟩ q
  obtain ⟨rfl, rfl, rfl, rfl, rfl, rfl, rfl, z⟩ := ePi q
  exact h2 _ _ _ _ _ _ _ _ _ _ _ _ _ z (len_er z)
theorem rb_NL {B : Type} {g : B → B} {m m' : Option (NL × SI)} {k k' : NL × SI → Option B} (h : m.map (eQ er) = m'.map (eQ er)) (h2 : ∀ x i d e a x' a', er x = er x' → x.len = x'.len → (k (x, (i, d, e, a))).map g = (k' (x', (i, d, e, a'))).map g) : (ob m k).map g = (ob m' k').map g := by
  refine rb_bind h ?_
  rintro ⟨x, i, d, e, a⟩ ⟨x', i', d', e', a'⟩ q
  obtain ⟨rfl, rfl, rfl, z⟩ := eMi q
  exact h2 _ _ _ _ _ _ _ z (len_er z)
theorem rb_YL {B : Type} {g : B → B} {m m' : Option (YL × SI)} {k k' : YL × SI → Option B} (h : m.map (eQ eYL) = m'.map (eQ eYL)) (h2 : ∀ s t n x i d e a n' x' a', er x = er x' → x.len = x'.len → (k ((s, t, n, x), (i, d, e, a))).map g = (k' ((s, t, n', x'), (i, d, e, a'))).map g) : (ob m k).map g = (ob m' k').map g := by
  refine rb_bind h ?_
  rintro ⟨⟨s, t, n, x⟩, i, d, e, a⟩ ⟨⟨s', t', n', x'⟩, i', d', e', a'⟩ q
  obtain ⟨rfl, rfl, rfl, rfl, rfl, z⟩ := eLi q
  exact h2 _ _ _ _ _ _ _ _ _ _ _ z (len_er z)
theorem rb_YR {B : Type} {g : B → B} {m m' : Option (YR × SI)} {k k' : YR × SI → Option B} (h : m.map (eQ eYR) = m'.map (eQ eYR)) (h2 : ∀ s t n x j i d e a n' x' j' a', er x = er x' → x.len = x'.len → (k (((s, t, n, x), j), (i, d, e, a))).map g = (k' (((s, t, n', x'), j'), (i, d, e, a'))).map g) : (ob m k).map g = (ob m' k').map g := by
  refine rb_bind h ?_
  rintro ⟨⟨⟨s, t, n, x⟩, j⟩, i, d, e, a⟩ ⟨⟨⟨s', t', n', x'⟩, j'⟩, i', d', e', a'⟩ q
  obtain ⟨rfl, rfl, rfl, rfl, rfl, z⟩ := eRi q
  exact h2 _ _ _ _ _ _ _ _ _ _ _ _ _ z (len_er z)
theorem mmYL {L L' : List Wd} (hL : LR L L') {p p' : PF} (H : RelP L L' p p') : (∀ (n : Nat) (y y' : YL) (s s' : SI), eYL y = eYL y' → eSI s = eSI s' → (lp13 p L n y s).map (eQ eYL) = (lp13 p' L' n y' s').map (eQ eYL)) ∧ (∀ (n : Nat) (y y' : YL) (s s' : SI), eYL y = eYL y' → eSI s = eSI s' → (lp24 p L n y s).map (eQ eYL) = (lp24 p' L' n y' s').map (eQ eYL)) ∧ (∀ (n : Nat) (y y' : YL) (s s' : SI), eYL y = eYL y' → eSI s = eSI s' → (lp50 p L n y s).map (eQ eYL) = (lp50 p' L' n y' s').map (eQ eYL)) ∧ (∀ (n : Nat) (y y' : YL) (s s' : SI), eYL y = eYL y' → eSI s = eSI s' → (lp60 p L n y s).map (eQ eYL) = (lp60 p' L' n y' s').map (eQ eYL)) ∧ (∀ (n : Nat) (y y' : YL) (s s' : SI), eYL y = eYL y' → eSI s = eSI s' → (lp47c p L n y s).map (eQ eYL) = (lp47c p' L' n y' s').map (eQ eYL)) ∧ (∀ (n : Nat) (y y' : YL) (s s' : SI), eYL y = eYL y' → eSI s = eSI s' → (lp87 p L n y s).map (eQ eYL) = (lp87 p' L' n y' s').map (eQ eYL)) := by
  refine ⟨fun n => iter_rel (E := eYL) ?_ n, fun n => iter_rel (E := eYL) ?_ n, fun n => iter_rel (E := eYL) ?_ n, fun n => iter_rel (E := eYL) ?_ n, fun n => iter_rel (E := eYL) ?_ n, fun n => iter_rel (E := eYL) ?_ n⟩
  all_goals
    rintro ⟨s, t, k, ks⟩ ⟨s', t', k', ks'⟩ ⟨i, d, e, a⟩ ⟨i', d', e', a'⟩ hy hs
    simp only [eYR, eYL, eSI, Prod.mk.injEq, true_and, and_true] at hy hs
    obtain ⟨rfl, rfl, rfl⟩ := hs
    obtain ⟨rfl, rfl, q0⟩ := hy
    have hl := len_er q0
    dsimp only
    first | unfold st13 | unfold st24 | unfold st50 | unfold st60 | unfold st47c | unfold stP87
    try simp only [hL.has, hL.k, hL.s, hL.len]
    repeat' first
      | exact rb_none
      | (refine rb_p (H _ _ _ _ _ _ _) ?_; intros; dsimp only)
      | refine rb_cond rfl ?_ ?_
      | refine rb_cond (by clear H hL; simp only [*]) ?_ ?_
      | exact rb_some (by clear H hL; simp only [eT, eYL, eSI, er, er_snoc, *])
theorem mmNL {L L' : List Wd} (hL : LR L L') {p p' : PF} (H : RelP L L' p p') : (∀ (n : Nat) (y y' : NL) (s s' : SI), er y = er y' → eSI s = eSI s' → (lp47 p L 46 n y s).map (eQ er) = (lp47 p' L' 46 n y' s').map (eQ er)) ∧ (∀ (n : Nat) (y y' : NL) (s s' : SI), er y = er y' → eSI s = eSI s' → (lp47 p L 89 n y s).map (eQ er) = (lp47 p' L' 89 n y' s').map (eQ er)) := by
  refine ⟨fun n => iter_rel (E := er) ?_ n, fun n => iter_rel (E := er) ?_ n⟩
  all_goals
    rintro ks ks' ⟨i, d, e, a⟩ ⟨i', d', e', a'⟩ hy hs
    simp only [eSI, Prod.mk.injEq, true_and, and_true] at hs
    obtain ⟨rfl, rfl, rfl⟩ := hs
    have q0 := hy
    have hl := len_er q0
    dsimp only
    first | unfold st47g46 | unfold st47g89
    try simp only [hL.has, hL.k, hL.s, hL.len]
    repeat' first
      | exact rb_none
      | (refine rb_p (H _ _ _ _ _ _ _) ?_; intros; dsimp only)
      | refine rb_cond rfl ?_ ?_
      | refine rb_cond (by clear H hL; simp only [*]) ?_ ?_
      | exact rb_some (by clear H hL; simp only [eT, eYL, eSI, er, er_snoc, *])
theorem mmYR {L L' : List Wd} (hL : LR L L') {p p' : PF} (H : RelP L L' p p') {x : Int} : (∀ (n : Nat) (y y' : YR) (s s' : SI), eYR y = eYR y' → eSI s = eSI s' → (lp69 p L 0 x n y s).map (eQ eYR) = (lp69 p' L' 0 x n y' s').map (eQ eYR)) ∧ (∀ (n : Nat) (y y' : YR) (s s' : SI), eYR y = eYR y' → eSI s = eSI s' → (lp69 p L 1 x n y s).map (eQ eYR) = (lp69 p' L' 1 x n y' s').map (eQ eYR)) ∧ (∀ (n : Nat) (y y' : YR) (s s' : SI), eYR y = eYR y' → eSI s = eSI s' → (lp69 p L 2 x n y s).map (eQ eYR) = (lp69 p' L' 2 x n y' s').map (eQ eYR)) ∧ (∀ (n : Nat) (y y' : YR) (s s' : SI), eYR y = eYR y' → eSI s = eSI s' → (lp69 p L 3 x n y s).map (eQ eYR) = (lp69 p' L' 3 x n y' s').map (eQ eYR)) ∧ (∀ (n : Nat) (y y' : YR) (s s' : SI), eYR y = eYR y' → eSI s = eSI s' → (lp69 p L 4 x n y s).map (eQ eYR) = (lp69 p' L' 4 x n y' s').map (eQ eYR)) := by
  refine ⟨fun n => iter_rel (E := eYR) ?_ n, fun n => iter_rel (E := eYR) ?_ n, fun n => iter_rel (E := eYR) ?_ n, fun n => iter_rel (E := eYR) ?_ n, fun n => iter_rel (E := eYR) ?_ n⟩
  all_goals
    rintro ⟨⟨s, t, k, ks⟩, j⟩ ⟨⟨s', t', k', ks'⟩, j'⟩ ⟨i, d, e, a⟩ ⟨i', d', e', a'⟩ hy hs
    simp only [eYR, eYL, eSI, Prod.mk.injEq, true_and, and_true] at hy hs
    obtain ⟨rfl, rfl, rfl⟩ := hs
    obtain ⟨⟨rfl, rfl, q0⟩, rfl⟩ := hy
    have hl := len_er q0
    dsimp only
    first | unfold stR0 | unfold stR1 | unfold stR2 | unfold stR3 | unfold stR4
    try simp only [hL.has, hL.k, hL.s, hL.len]
    repeat' first
      | exact rb_none
      | (refine rb_p (H _ _ _ _ _ _ _) ?_; intros; dsimp only)
      | refine rb_cond rfl ?_ ?_
      | refine rb_cond (by clear H hL; simp only [*]) ?_ ?_
      | exact rb_some (by clear H hL; simp only [eT, eYR, eYL, eSI, er, er_snoc, *])
set_option maxHeartbeats 0 in
theorem mmF {L L' : List Wd} (hL : LR L L') {p p' : PF} (H : RelP L L' p p') {n : Nat} : (∀ (x : ByteArray) (i d e a a' : Int), (F22 p L n x i d e a).map eP = (F22 p' L' n x i d e a').map eP) ∧ (∀ (i d e a a' : Int), (F24 p L n i d e a).map eP = (F24 p' L' n i d e a').map eP) ∧ (∀ (x : ByteArray) (i d e a a' : Int), (F34 p L n x i d e a).map eP = (F34 p' L' n x i d e a').map eP) ∧ (∀ (i d e a a' : Int), (F35 p L n i d e a).map eP = (F35 p' L' n i d e a').map eP) ∧ (∀ (x : ByteArray) (i d e a a' : Int), (F36 p L n x i d e a).map eP = (F36 p' L' n x i d e a').map eP) ∧ (∀ (x : List ByteArray) (i d e a a' : Int), (F37 p L n x i d e a).map eP = (F37 p' L' n x i d e a').map eP) ∧ (∀ (x : ByteArray) (i d e a a' : Int), (F38 p L n x i d e a).map eP = (F38 p' L' n x i d e a').map eP) ∧ (∀ (i d e a a' : Int), (F39 p L n i d e a).map eP = (F39 p' L' n i d e a').map eP) ∧ (∀ (x : Int) (i d e a a' : Int), (F40 p L n x i d e a).map eP = (F40 p' L' n x i d e a').map eP) ∧ (∀ (i d e a a' : Int), (F44 p L n i d e a).map eP = (F44 p' L' n i d e a').map eP) ∧ (∀ (i d e a a' : Int), (F46 p L n i d e a).map eP = (F46 p' L' n i d e a').map eP) ∧ (∀ (i d e a a' : Int), (F49 p L n i d e a).map eP = (F49 p' L' n i d e a').map eP) ∧ (∀ (i d e a a' : Int), (F50 p L n i d e a).map eP = (F50 p' L' n i d e a').map eP) ∧ (∀ (i d e a a' : Int), (F58 p L n i d e a).map eP = (F58 p' L' n i d e a').map eP) ∧ (∀ (i d e a a' : Int), (F59 p L n i d e a).map eP = (F59 p' L' n i d e a').map eP) ∧ (∀ (i d e a a' : Int), (F60 p L n i d e a).map eP = (F60 p' L' n i d e a').map eP) ∧ (∀ (i d e a a' : Int), (F64 p L n i d e a).map eP = (F64 p' L' n i d e a').map eP) ∧ (∀ (i d e a a' : Int), (F65 p L n i d e a).map eP = (F65 p' L' n i d e a').map eP) ∧ (∀ (i d e a a' : Int), (F66 p L n i d e a).map eP = (F66 p' L' n i d e a').map eP) ∧ (∀ (i d e a a' : Int), (F67 p L n i d e a).map eP = (F67 p' L' n i d e a').map eP) ∧ (∀ (i d e a a' : Int), (F70 p L n i d e a).map eP = (F70 p' L' n i d e a').map eP) ∧ (∀ (i d e a a' : Int), (F72 p L n i d e a).map eP = (F72 p' L' n i d e a').map eP) ∧ (∀ (i d e a a' : Int), (F77 p L n i d e a).map eP = (F77 p' L' n i d e a').map eP) ∧ (∀ (i d e a a' : Int), (F83 p L n i d e a).map eP = (F83 p' L' n i d e a').map eP) ∧ (∀ (i d e a a' : Int), (F86 p L n i d e a).map eP = (F86 p' L' n i d e a').map eP) ∧ (∀ (i d e a a' : Int), (F87 p L n i d e a).map eP = (F87 p' L' n i d e a').map eP) ∧ (∀ (i d e a a' : Int), (F88 p L n i d e a).map eP = (F88 p' L' n i d e a').map eP) ∧ (∀ (i d e a a' : Int), (F89 p L n i d e a).map eP = (F89 p' L' n i d e a').map eP) ∧ (∀ (i d e a a' : Int), (F13 p L n i d e a).map eP = (F13 p' L' n i d e a').map eP) ∧ (∀ (i d e a a' : Int), (F47_46 p L n i d e a).map eP = (F47_46 p' L' n i d e a').map eP) ∧ (∀ (i d e a a' : Int), (F47_89 p L n i d e a).map eP = (F47_89 p' L' n i d e a').map eP) ∧ (∀ (x : Int) (i d e a a' : Int), (F69_0 p L n x i d e a).map eP = (F69_0 p' L' n x i d e a').map eP) ∧ (∀ (x : Int) (i d e a a' : Int), (F69_1 p L n x i d e a).map eP = (F69_1 p' L' n x i d e a').map eP) ∧ (∀ (x : Int) (i d e a a' : Int), (F69_2 p L n x i d e a).map eP = (F69_2 p' L' n x i d e a').map eP) ∧ (∀ (x : Int) (i d e a a' : Int), (F69_3 p L n x i d e a).map eP = (F69_3 p' L' n x i d e a').map eP) ∧ (∀ (x : Int) (i d e a a' : Int), (F69_4 p L n x i d e a).map eP = (F69_4 p' L' n x i d e a').map eP) := by
  refine ⟨?_, ?_, ?_, ?_, ?_, ?_, ?_, ?_, ?_, ?_, ?_, ?_, ?_, ?_, ?_, ?_, ?_, ?_, ?_, ?_, ?_, ?_, ?_, ?_, ?_, ?_, ?_, ?_, ?_, ?_, ?_, ?_, ?_, ?_, ?_, ?_⟩
  all_goals
    intros
    first | unfold F22 | unfold F24 | unfold F34 | unfold F35 | unfold F36 | unfold F37 | unfold F38 | unfold F39 | unfold F40 | unfold F44 | unfold F46 | unfold F49 | unfold F50 | unfold F58 | unfold F59 | unfold F60 | unfold F64 | unfold F65 | unfold F66 | unfold F67 | unfold F70 | unfold F72 | unfold F77 | unfold F83 | unfold F86 | unfold F87 | unfold F88 | unfold F89 | unfold F13 | unfold F47_46 | unfold F47_89 | unfold F69_0 | unfold F69_1 | unfold F69_2 | unfold F69_3 | unfold F69_4
    try simp only [hL.has, hL.k, hL.s, hL.len]
    repeat' first
      | exact rb_none
      | (refine rb_p (H _ _ _ _ _ _ _) ?_; intros; dsimp only)
      | (refine rb_YL ((mmYL hL H).1 _ _ _ _ _ (by clear H hL; simp only [er, eYL, eYR, *]) rfl) ?_; intros; dsimp only)
      | (refine rb_YL ((mmYL hL H).2.1 _ _ _ _ _ (by clear H hL; simp only [er, eYL, eYR, *]) rfl) ?_; intros; dsimp only)
      | (refine rb_YL ((mmYL hL H).2.2.1 _ _ _ _ _ (by clear H hL; simp only [er, eYL, eYR, *]) rfl) ?_; intros; dsimp only)
      | (refine rb_YL ((mmYL hL H).2.2.2.1 _ _ _ _ _ (by clear H hL; simp only [er, eYL, eYR, *]) rfl) ?_; intros; dsimp only)
      | (refine rb_YL ((mmYL hL H).2.2.2.2.1 _ _ _ _ _ (by clear H hL; simp only [er, eYL, eYR, *]) rfl) ?_; intros; dsimp only)
      | (refine rb_YL ((mmYL hL H).2.2.2.2.2 _ _ _ _ _ (by clear H hL; simp only [er, eYL, eYR, *]) rfl) ?_; intros; dsimp only)
      | (refine rb_NL ((mmNL hL H).1 _ _ _ _ _ (by clear H hL; simp only [er, eYL, eYR, *]) rfl) ?_; intros; dsimp only)
      | (refine rb_NL ((mmNL hL H).2 _ _ _ _ _ (by clear H hL; simp only [er, eYL, eYR, *]) rfl) ?_; intros; dsimp only)
      | (refine rb_YR ((mmYR hL H).1 _ _ _ _ _ (by clear H hL; simp only [er, eYL, eYR, *]) rfl) ?_; intros; dsimp only)
      | (refine rb_YR ((mmYR hL H).2.1 _ _ _ _ _ (by clear H hL; simp only [er, eYL, eYR, *]) rfl) ?_; intros; dsimp only)
      | (refine rb_YR ((mmYR hL H).2.2.1 _ _ _ _ _ (by clear H hL; simp only [er, eYL, eYR, *]) rfl) ?_; intros; dsimp only)
      | (refine rb_YR ((mmYR hL H).2.2.2.1 _ _ _ _ _ (by clear H hL; simp only [er, eYL, eYR, *]) rfl) ?_; intros; dsimp only)
      | (refine rb_YR ((mmYR hL H).2.2.2.2 _ _ _ _ _ (by clear H hL; simp only [er, eYL, eYR, *]) rfl) ?_; intros; dsimp only)
      | refine rb_cond rfl ?_ ?_
      | refine rb_cond (by clear H hL; simp only [*]) ?_ ?_
      | exact rb_some (by clear H hL; simp only [eP, er, er_snoc, *])
theorem rel_and {L L' : List Wd} {k : FuncId} {f f' : PArg → Int → Int → Int → Int → Option PR} {q q' : PF} (hf : ∀ x i d e a a', (f x i d e a).map eP = (f' x i d e a').map eP) (hq : RelP L L' q q') : RelP L L' (andP k f q) (andP k f' q') := by
  intro g x i d e a a'
  unfold andP
  cases Nat.beq g k with
  | true => exact hf x i d e a a'
  | false => exact hq g x i d e a a'
theorem g22 {L L' : List Wd} (hL : LR L L') {p p' : PF} (H : RelP L L' p p') {n : Nat} (x : PArg) (i d e a a' : Int) : (e22 p L n x i d e a).map eP = (e22 p' L' n x i d e a').map eP := by
  cases x with
  | s y => exact (mmF hL H (n := n)).1 _ _ _ _ _ _
  | _ => rfl
theorem g24 {L L' : List Wd} (hL : LR L L') {p p' : PF} (H : RelP L L' p p') {n : Nat} (x : PArg) (i d e a a' : Int) : (e24 p L n x i d e a).map eP = (e24 p' L' n x i d e a').map eP := by
  cases x with
  | u => exact (mmF hL H (n := n)).2.1 _ _ _ _ _
  | _ => rfl
theorem g34 {L L' : List Wd} (hL : LR L L') {p p' : PF} (H : RelP L L' p p') {n : Nat} (x : PArg) (i d e a a' : Int) : (e34 p L n x i d e a).map eP = (e34 p' L' n x i d e a').map eP := by
  cases x with
  | s y => exact (mmF hL H (n := n)).2.2.1 _ _ _ _ _ _
  | _ => rfl
theorem g35 {L L' : List Wd} (hL : LR L L') {p p' : PF} (H : RelP L L' p p') {n : Nat} (x : PArg) (i d e a a' : Int) : (e35 p L n x i d e a).map eP = (e35 p' L' n x i d e a').map eP := by
  cases x with
  | u => exact (mmF hL H (n := n)).2.2.2.1 _ _ _ _ _
  | _ => rfl
theorem g36 {L L' : List Wd} (hL : LR L L') {p p' : PF} (H : RelP L L' p p') {n : Nat} (x : PArg) (i d e a a' : Int) : (e36 p L n x i d e a).map eP = (e36 p' L' n x i d e a').map eP := by
  cases x with
  | s y => exact (mmF hL H (n := n)).2.2.2.2.1 _ _ _ _ _ _
  | _ => rfl
theorem g37 {L L' : List Wd} (hL : LR L L') {p p' : PF} (H : RelP L L' p p') {n : Nat} (x : PArg) (i d e a a' : Int) : (e37 p L n x i d e a).map eP = (e37 p' L' n x i d e a').map eP := by
  cases x with
  | x y => exact (mmF hL H (n := n)).2.2.2.2.2.1 _ _ _ _ _ _
  | _ => rfl
theorem g38 {L L' : List Wd} (hL : LR L L') {p p' : PF} (H : RelP L L' p p') {n : Nat} (x : PArg) (i d e a a' : Int) : (e38 p L n x i d e a).map eP = (e38 p' L' n x i d e a').map eP := by
  cases x with
  | s y => exact (mmF hL H (n := n)).2.2.2.2.2.2.1 _ _ _ _ _ _
  | _ => rfl
theorem g39 {L L' : List Wd} (hL : LR L L') {p p' : PF} (H : RelP L L' p p') {n : Nat} (x : PArg) (i d e a a' : Int) : (e39 p L n x i d e a).map eP = (e39 p' L' n x i d e a').map eP := by
  cases x with
  | u => exact (mmF hL H (n := n)).2.2.2.2.2.2.2.1 _ _ _ _ _
  | _ => rfl
theorem g40 {L L' : List Wd} (hL : LR L L') {p p' : PF} (H : RelP L L' p p') {n : Nat} (x : PArg) (i d e a a' : Int) : (e40 p L n x i d e a).map eP = (e40 p' L' n x i d e a').map eP := by
  cases x with
  | i y => exact (mmF hL H (n := n)).2.2.2.2.2.2.2.2.1 _ _ _ _ _ _
  | _ => rfl
theorem g44 {L L' : List Wd} (hL : LR L L') {p p' : PF} (H : RelP L L' p p') {n : Nat} (x : PArg) (i d e a a' : Int) : (e44 p L n x i d e a).map eP = (e44 p' L' n x i d e a').map eP := by
  cases x with
  | u => exact (mmF hL H (n := n)).2.2.2.2.2.2.2.2.2.1 _ _ _ _ _
  | _ => rfl
theorem g46 {L L' : List Wd} (hL : LR L L') {p p' : PF} (H : RelP L L' p p') {n : Nat} (x : PArg) (i d e a a' : Int) : (e46 p L n x i d e a).map eP = (e46 p' L' n x i d e a').map eP := by
  cases x with
  | u => exact (mmF hL H (n := n)).2.2.2.2.2.2.2.2.2.2.1 _ _ _ _ _
  | _ => rfl
theorem g49 {L L' : List Wd} (hL : LR L L') {p p' : PF} (H : RelP L L' p p') {n : Nat} (x : PArg) (i d e a a' : Int) : (e49 p L n x i d e a).map eP = (e49 p' L' n x i d e a').map eP := by
  cases x with
  | u => exact (mmF hL H (n := n)).2.2.2.2.2.2.2.2.2.2.2.1 _ _ _ _ _
  | _ => rfl
theorem g50 {L L' : List Wd} (hL : LR L L') {p p' : PF} (H : RelP L L' p p') {n : Nat} (x : PArg) (i d e a a' : Int) : (e50 p L n x i d e a).map eP = (e50 p' L' n x i d e a').map eP := by
  cases x with
  | u => exact (mmF hL H (n := n)).2.2.2.2.2.2.2.2.2.2.2.2.1 _ _ _ _ _
  | _ => rfl
theorem g58 {L L' : List Wd} (hL : LR L L') {p p' : PF} (H : RelP L L' p p') {n : Nat} (x : PArg) (i d e a a' : Int) : (e58 p L n x i d e a).map eP = (e58 p' L' n x i d e a').map eP := by
  cases x with
  | u => exact (mmF hL H (n := n)).2.2.2.2.2.2.2.2.2.2.2.2.2.1 _ _ _ _ _
  | _ => rfl
theorem g59 {L L' : List Wd} (hL : LR L L') {p p' : PF} (H : RelP L L' p p') {n : Nat} (x : PArg) (i d e a a' : Int) : (e59 p L n x i d e a).map eP = (e59 p' L' n x i d e a').map eP := by
  cases x with
  | u => exact (mmF hL H (n := n)).2.2.2.2.2.2.2.2.2.2.2.2.2.2.1 _ _ _ _ _
  | _ => rfl
theorem g60 {L L' : List Wd} (hL : LR L L') {p p' : PF} (H : RelP L L' p p') {n : Nat} (x : PArg) (i d e a a' : Int) : (e60 p L n x i d e a).map eP = (e60 p' L' n x i d e a').map eP := by
  cases x with
  | u => exact (mmF hL H (n := n)).2.2.2.2.2.2.2.2.2.2.2.2.2.2.2.1 _ _ _ _ _
  | _ => rfl
theorem g64 {L L' : List Wd} (hL : LR L L') {p p' : PF} (H : RelP L L' p p') {n : Nat} (x : PArg) (i d e a a' : Int) : (e64 p L n x i d e a).map eP = (e64 p' L' n x i d e a').map eP := by
  cases x with
  | u => exact (mmF hL H (n := n)).2.2.2.2.2.2.2.2.2.2.2.2.2.2.2.2.1 _ _ _ _ _
  | _ => rfl
theorem g65 {L L' : List Wd} (hL : LR L L') {p p' : PF} (H : RelP L L' p p') {n : Nat} (x : PArg) (i d e a a' : Int) : (e65 p L n x i d e a).map eP = (e65 p' L' n x i d e a').map eP := by
  cases x with
  | u => exact (mmF hL H (n := n)).2.2.2.2.2.2.2.2.2.2.2.2.2.2.2.2.2.1 _ _ _ _ _
  | _ => rfl
theorem g66 {L L' : List Wd} (hL : LR L L') {p p' : PF} (H : RelP L L' p p') {n : Nat} (x : PArg) (i d e a a' : Int) : (e66 p L n x i d e a).map eP = (e66 p' L' n x i d e a').map eP := by
  cases x with
  | u => exact (mmF hL H (n := n)).2.2.2.2.2.2.2.2.2.2.2.2.2.2.2.2.2.2.1 _ _ _ _ _
  | _ => rfl
theorem g67 {L L' : List Wd} (hL : LR L L') {p p' : PF} (H : RelP L L' p p') {n : Nat} (x : PArg) (i d e a a' : Int) : (e67 p L n x i d e a).map eP = (e67 p' L' n x i d e a').map eP := by
  cases x with
  | u => exact (mmF hL H (n := n)).2.2.2.2.2.2.2.2.2.2.2.2.2.2.2.2.2.2.2.1 _ _ _ _ _
  | _ => rfl
theorem g70 {L L' : List Wd} (hL : LR L L') {p p' : PF} (H : RelP L L' p p') {n : Nat} (x : PArg) (i d e a a' : Int) : (e70 p L n x i d e a).map eP = (e70 p' L' n x i d e a').map eP := by
  cases x with
  | u => exact (mmF hL H (n := n)).2.2.2.2.2.2.2.2.2.2.2.2.2.2.2.2.2.2.2.2.1 _ _ _ _ _
  | _ => rfl
theorem g72 {L L' : List Wd} (hL : LR L L') {p p' : PF} (H : RelP L L' p p') {n : Nat} (x : PArg) (i d e a a' : Int) : (e72 p L n x i d e a).map eP = (e72 p' L' n x i d e a').map eP := by
  cases x with
  | u => exact (mmF hL H (n := n)).2.2.2.2.2.2.2.2.2.2.2.2.2.2.2.2.2.2.2.2.2.1 _ _ _ _ _
  | _ => rfl
theorem g77 {L L' : List Wd} (hL : LR L L') {p p' : PF} (H : RelP L L' p p') {n : Nat} (x : PArg) (i d e a a' : Int) : (e77 p L n x i d e a).map eP = (e77 p' L' n x i d e a').map eP := by
  cases x with
  | u => exact (mmF hL H (n := n)).2.2.2.2.2.2.2.2.2.2.2.2.2.2.2.2.2.2.2.2.2.2.1 _ _ _ _ _
  | _ => rfl
theorem g83 {L L' : List Wd} (hL : LR L L') {p p' : PF} (H : RelP L L' p p') {n : Nat} (x : PArg) (i d e a a' : Int) : (e83 p L n x i d e a).map eP = (e83 p' L' n x i d e a').map eP := by
  cases x with
  | u => exact (mmF hL H (n := n)).2.2.2.2.2.2.2.2.2.2.2.2.2.2.2.2.2.2.2.2.2.2.2.1 _ _ _ _ _
  | _ => rfl
theorem g86 {L L' : List Wd} (hL : LR L L') {p p' : PF} (H : RelP L L' p p') {n : Nat} (x : PArg) (i d e a a' : Int) : (e86 p L n x i d e a).map eP = (e86 p' L' n x i d e a').map eP := by
  cases x with
  | u => exact (mmF hL H (n := n)).2.2.2.2.2.2.2.2.2.2.2.2.2.2.2.2.2.2.2.2.2.2.2.2.1 _ _ _ _ _
  | _ => rfl
theorem g87 {L L' : List Wd} (hL : LR L L') {p p' : PF} (H : RelP L L' p p') {n : Nat} (x : PArg) (i d e a a' : Int) : (e87 p L n x i d e a).map eP = (e87 p' L' n x i d e a').map eP := by
  cases x with
  | u => exact (mmF hL H (n := n)).2.2.2.2.2.2.2.2.2.2.2.2.2.2.2.2.2.2.2.2.2.2.2.2.2.1 _ _ _ _ _
  | _ => rfl
theorem g88 {L L' : List Wd} (hL : LR L L') {p p' : PF} (H : RelP L L' p p') {n : Nat} (x : PArg) (i d e a a' : Int) : (e88 p L n x i d e a).map eP = (e88 p' L' n x i d e a').map eP := by
  cases x with
  | u => exact (mmF hL H (n := n)).2.2.2.2.2.2.2.2.2.2.2.2.2.2.2.2.2.2.2.2.2.2.2.2.2.2.1 _ _ _ _ _
  | _ => rfl
theorem g89 {L L' : List Wd} (hL : LR L L') {p p' : PF} (H : RelP L L' p p') {n : Nat} (x : PArg) (i d e a a' : Int) : (e89 p L n x i d e a).map eP = (e89 p' L' n x i d e a').map eP := by
  cases x with
  | u => exact (mmF hL H (n := n)).2.2.2.2.2.2.2.2.2.2.2.2.2.2.2.2.2.2.2.2.2.2.2.2.2.2.2.1 _ _ _ _ _
  | _ => rfl
theorem g13 {L L' : List Wd} (hL : LR L L') {p p' : PF} (H : RelP L L' p p') {n : Nat} (x : PArg) (i d e a a' : Int) : (e13 p L n x i d e a).map eP = (e13 p' L' n x i d e a').map eP := by
  cases x with
  | u => exact (mmF hL H (n := n)).2.2.2.2.2.2.2.2.2.2.2.2.2.2.2.2.2.2.2.2.2.2.2.2.2.2.2.2.1 _ _ _ _ _
  | _ => rfl
theorem g47 {L L' : List Wd} (hL : LR L L') {p p' : PF} (H : RelP L L' p p') {n : Nat} (x : PArg) (i d e a a' : Int) : (e47 p L n x i d e a).map eP = (e47 p' L' n x i d e a').map eP := by
  cases x with
  | f g =>
    unfold e47
    dsimp only
    split
    · exact (mmF hL H (n := n)).2.2.2.2.2.2.2.2.2.2.2.2.2.2.2.2.2.2.2.2.2.2.2.2.2.2.2.2.2.1 _ _ _ _ _
    · exact (mmF hL H (n := n)).2.2.2.2.2.2.2.2.2.2.2.2.2.2.2.2.2.2.2.2.2.2.2.2.2.2.2.2.2.2.1 _ _ _ _ _
    · rfl
  | _ => rfl
theorem g69 {L L' : List Wd} (hL : LR L L') {p p' : PF} (H : RelP L L' p p') {n : Nat} (x : PArg) (i d e a a' : Int) : (e69 p L n x i d e a).map eP = (e69 p' L' n x i d e a').map eP := by
  cases x with
  | r y g c =>
    unfold e69
    dsimp only
    split
    · exact (mmF hL H (n := n)).2.2.2.2.2.2.2.2.2.2.2.2.2.2.2.2.2.2.2.2.2.2.2.2.2.2.2.2.2.2.2.1 _ _ _ _ _ _
    split
    · exact (mmF hL H (n := n)).2.2.2.2.2.2.2.2.2.2.2.2.2.2.2.2.2.2.2.2.2.2.2.2.2.2.2.2.2.2.2.2.1 _ _ _ _ _ _
    split
    · exact (mmF hL H (n := n)).2.2.2.2.2.2.2.2.2.2.2.2.2.2.2.2.2.2.2.2.2.2.2.2.2.2.2.2.2.2.2.2.2.1 _ _ _ _ _ _
    split
    · exact (mmF hL H (n := n)).2.2.2.2.2.2.2.2.2.2.2.2.2.2.2.2.2.2.2.2.2.2.2.2.2.2.2.2.2.2.2.2.2.2.1 _ _ _ _ _ _
    split
    · exact (mmF hL H (n := n)).2.2.2.2.2.2.2.2.2.2.2.2.2.2.2.2.2.2.2.2.2.2.2.2.2.2.2.2.2.2.2.2.2.2.2 _ _ _ _ _ _
    rfl
  | _ => rfl
theorem relPP {L L' : List Wd} (hL : LR L L') {p p' : PF} (H : RelP L L' p p') (n : Nat) : RelP L L' (PP p L n) (PP p' L' n) := rel_and (g13 hL H (n := n)) (rel_and (g22 hL H (n := n)) (rel_and (g24 hL H (n := n)) (rel_and (g34 hL H (n := n)) (rel_and (g35 hL H (n := n)) (rel_and (g36 hL H (n := n)) (rel_and (g37 hL H (n := n)) (rel_and (g38 hL H (n := n)) (rel_and (g39 hL H (n := n)) (rel_and (g40 hL H (n := n)) (rel_and (g44 hL H (n := n)) (rel_and (g46 hL H (n := n)) (rel_and (g47 hL H (n := n)) (rel_and (g49 hL H (n := n)) (rel_and (g50 hL H (n := n)) (rel_and (g58 hL H (n := n)) (rel_and (g59 hL H (n := n)) (rel_and (g60 hL H (n := n)) (rel_and (g64 hL H (n := n)) (rel_and (g65 hL H (n := n)) (rel_and (g66 hL H (n := n)) (rel_and (g67 hL H (n := n)) (rel_and (g69 hL H (n := n)) (rel_and (g70 hL H (n := n)) (rel_and (g72 hL H (n := n)) (rel_and (g77 hL H (n := n)) (rel_and (g83 hL H (n := n)) (rel_and (g86 hL H (n := n)) (rel_and (g87 hL H (n := n)) (rel_and (g88 hL H (n := n)) (rel_and (g89 hL H (n := n)) ((fun g x i d e a a' => rfl))))))))))))))))))))))))))))))))
theorem rel_all {L L' : List Wd} (hL : LR L L') : ∀ n, RelP L L' (pn L n) (pn L' n)
  | 0 => fun g x i d e a a' => rfl
  | n + 1 => relPP hL (rel_all hL n) n
/-- Every row of words is a tree, or fails; two rows of the same words do alike. -/
theorem parse_two {L L' : List Wd} (hL : LR L L') (h : LOk L) : ∃ n r r', pn L n 13 .u 0 0 0 0 = some r ∧ pn L' n 13 .u 0 0 0 0 = some r' ∧ eP r = eP r' := by
  have hp := h.pos
  obtain ⟨r, h1, _⟩ := (HH_all h (L.length * 64 + 100)).c13 (i := 0) (d := 0) (e := 0) (a := 0) (by unfold Pre; omega)
  have h2 := rel_all hL (L.length * 64 + 100) 13 .u 0 0 0 0 0
  rw [h1] at h2
  cases h3 : pn L' (L.length * 64 + 100) 13 .u 0 0 0 0 with
  | none => rw [h3] at h2; cases h2
  | some r' =>
    rw [h3] at h2
    exact ⟨_, r, r', h1, h3, Option.some.inj h2⟩
/-- Are two rows of trees the same, but for places? -/
noncomputable def eqN (a b : NL) : Bool := tst (er a = er b)
abbrev nodeV (s t : ByteArray) (n : Int) (k : NL) : Value := .agg ⟨[.string s, .string t, .int .i64 n, kv k]⟩
def Q11 (c : NL) : Prop := ∀ (s t : ByteArray) (n : Int) (s' t' : ByteArray) (n' : Int) (c' : NL), ConQ Tryd.prog Lx.lq 11 [nodeV s t n c, nodeV s' t' n' c'] (.bool (s.data.toList == s'.data.toList && (t.data.toList == t'.data.toList && eqN c c')))
noncomputable def sE (ar : List Value) : Option (Bool × Value) := match ar with
  | [.agg ⟨[.string s, .string t, .int k n, .iface ty (.tuple ⟨.slice none l off :: .bool ex :: cs⟩)]⟩, .agg ⟨[.string s', .string t', .int k' n', .iface ty' (.tuple ⟨.slice none l' off' :: .bool ex' :: cs'⟩)]⟩] =>
    some (tst (k = .i64 ∧ k' = .i64 ∧ Value.iface ty (.tuple ⟨.slice none l off :: .bool ex :: cs⟩) = kv (unN cs) ∧ Value.iface ty' (.tuple ⟨.slice none l' off' :: .bool ex' :: cs'⟩) = kv (unN cs') ∧ Q11 (unN cs)), .bool (s.data.toList == s'.data.toList && (t.data.toList == t'.data.toList && eqN (unN cs) (unN cs'))))
  | _ => none
noncomputable def GS : TabF := andG 11 sE noG
theorem GS_ok : TabQ Tryd.prog Lx.lq GS := by
  refine andQ_ok Tryd.func11 rfl (by kernel_rfl) (fun ar v h => ?_) noQ_ok
  unfold sE at h
  split at h
  · simp only [Option.some.injEq, Prod.mk.injEq] at h
    obtain ⟨ht, rfl⟩ := h
    obtain ⟨rfl, rfl, h1, h2, h3⟩ := of_tst ht
    rw [h1, h2]
    exact h3 _ _ _ _ _ _ _
  · cases h
noncomputable abbrev qsA (F : TabF) : CallA := sumQ (glV Lx.lq) Lx.lq (fun _ => 2) F
noncomputable abbrev qsK {R : Type} (F : TabF) : CK R := sumQK (glV Lx.lq) Lx.lq (fun _ => 2) F
theorem qsA_ok {F : TabF} (hF : TabQ Tryd.prog Lx.lq F) : CallOK Tryd.prog (glV Lx.lq) (qsA F) := sumQ_ok Lx.lq_g _ hF
theorem qsK_ok {R : Type} (F : TabF) : CKok (R := R) (qsA F) (qsK F) := sumQK_ok _ _ _ _
abbrev ts19 : List Nat := [0, 1, 2, 6, 15, 16, 17]
abbrev vs19 (k k' : NL) (i : Int) : List Value := [kv k, kv k', .func (.func 11) ⟨[]⟩ ⟨[]⟩, .bool false, kv k, .int .i64 (k.len : Nat), .int .i64 i]
noncomputable abbrev R19 (k k' : NL) (i : Int) := FQ Tryd.prog Lx.lq (qsA GS) (qsK GS) noLK 1 Tryd.f19 0 ts19 (vs19 k k' i)
abbrev o4 (i : Int) : Nat := 0 + Int.toNat i * 4
abbrev tE4 (k : NL) (i : Int) : Bool := isStr (flatN k) (o4 i) && (isStr (flatN k) (o4 i + 1) && (isInt .i64 (flatN k) (o4 i + 1 + 1) && (isGsl (flatN k) (o4 i + 1 + 1 + 1) && true)))
abbrev c4 (k : NL) (i : Int) : List Value := gC (flatN k) (o4 i + 1 + 1 + 1)
abbrev v4 (k : NL) (i : Int) : Value := gslV (gL (flatN k) (o4 i + 1 + 1 + 1)) (gO (flatN k) (o4 i + 1 + 1 + 1)) (gX (flatN k) (o4 i + 1 + 1 + 1)) (c4 k i)
noncomputable abbrev e4 (k k' : NL) (i : Int) : Bool := (strAt (flatN k) (o4 i)).data.toList == (strAt (flatN k') (o4 i)).data.toList && ((strAt (flatN k) (o4 i + 1)).data.toList == (strAt (flatN k') (o4 i + 1)).data.toList && eqN (unN (c4 k i)) (unN (c4 k' i)))
noncomputable abbrev z19 (k k' : NL) (i : Int) (x : XA) : Option (XA × List Value × Nat) := Option.bind (bif tst (GVal (kv k)) then bif tst (GVal (kv k')) then bif tst (GVal (kv k)) then some (vs19 k k' i) else none else none else none) fun r => some (x, r, 32)
theorem t19 (k k' : NL) (i : Int) : R19 k k' i = bif decide (i < (k.len : Int)) then bif decide (0 ≤ i) && decide (i < (k.len : Int)) then bif tE4 k i then bif decide (0 ≤ i) && decide (i < (k'.len : Int)) then bif tE4 k' i then bif Lx.tE then bif tst (GVal (v4 k i)) then bif tst (GVal (v4 k' i)) then bif tst (IntKind.i64 = .i64 ∧ IntKind.i64 = .i64 ∧ v4 k i = kv (unN (c4 k i)) ∧ v4 k' i = kv (unN (c4 k' i)) ∧ Q11 (unN (c4 k i))) then bif e4 k k' i then z19 k k' (IntKind.wrap .i64 (i + 1)) .normal else z19 k k' i .ret else none else none else none else none else none else none else none else none else z19 k k' i (.exit 0) := by kernel_rfl
def NL.at : NL → Nat → Option (ByteArray × ByteArray × Int × NL)
  | .nil, _ => none
  | .cons s t n c _, 0 => some (s, t, n, c)
  | .cons _ _ _ _ r, j + 1 => r.at j
def NL.dr : NL → Nat → NL
  | k, 0 => k
  | .nil, _ + 1 => .nil
  | .cons _ _ _ _ r, j + 1 => r.dr j
theorem flatN_at : ∀ {k : NL} {j : Nat} {s t : ByteArray} {n : Int} {c : NL}, k.at j = some (s, t, n, c) → (flatN k)[4 * j]? = some (.string s) ∧ (flatN k)[4 * j + 1]? = some (.string t) ∧ (flatN k)[4 * j + 2]? = some (.int .i64 n) ∧ (flatN k)[4 * j + 3]? = some (kv c) := by
  intro k
  induction k with
  | nil => intro j s t n c h; cases h
  | cons s' t' n' k' r _ ih =>
    intro j s t n c h
    cases j with
    | zero => cases h; exact ⟨rfl, rfl, rfl, rfl⟩
    | succ j =>
      obtain ⟨h1, h2, h3, h4⟩ := ih (j := j) h
      exact ⟨h1, h2, h3, h4⟩
theorem at_lt : ∀ {k : NL} {j : Nat}, j < k.len → ∃ s t n c, k.at j = some (s, t, n, c) := by
  intro k
  induction k with
  | nil => intro j h; cases h
  | cons s t n c r _ ih =>
    intro j h
    cases j with
    | zero => exact ⟨s, t, n, c, rfl⟩
    | succ j => exact ih (j := j) (by have : j + 1 < r.len + 1 := h; omega)
theorem dr_at : ∀ {k : NL} {j : Nat} {s t : ByteArray} {n : Int} {c : NL}, k.at j = some (s, t, n, c) → k.dr j = .cons s t n c (k.dr (j + 1)) := by
  intro k
  induction k with
  | nil => intro j s t n c h; cases h
  | cons s' t' n' k' r _ ih =>
    intro j s t n c h
    cases j with
    | zero =>
      cases h
      cases r <;> rfl
    | succ j => exact ih (j := j) h
theorem dr_zero (k : NL) : k.dr 0 = k := by cases k <;> rfl
theorem dr_end : ∀ {k : NL}, k.dr k.len = .nil := by
  intro k
  induction k with
  | nil => rfl
  | cons s t n c r _ ih => exact ih
theorem er_cons {s t : ByteArray} {n : Int} {c r : NL} {s' t' : ByteArray} {n' : Int} {c' r' : NL} : eqN (.cons s t n c r) (.cons s' t' n' c' r') = ((s.data.toList == s'.data.toList && (t.data.toList == t'.data.toList && eqN c c')) && eqN r r') := by
  have hs : ∀ {a b : ByteArray}, (a.data.toList == b.data.toList) = true ↔ a = b := fun {a b} => by
    obtain ⟨⟨x⟩⟩ := a
    obtain ⟨⟨y⟩⟩ := b
    simp
  have hi : ∀ {a b : NL}, eqN a b = true ↔ er a = er b := fun {a b} => ⟨fun h => of_tst h, fun h => tst_of h⟩
  rw [Bool.eq_iff_iff]
  simp only [Bool.and_eq_true, hi, hs]
  show NL.cons s t 0 (er c) (er r) = .cons s' t' 0 (er c') (er r') ↔ _
  simp only [NL.cons.injEq, true_and, and_assoc]
theorem eqN_nil : eqN .nil .nil = true := tst_of rfl
theorem e4_at {k k' : NL} {j : Nat} {s t : ByteArray} {n : Int} {c : NL} {s' t' : ByteArray} {n' : Int} {c' : NL} (h : k.at j = some (s, t, n, c)) (h' : k'.at j = some (s', t', n', c')) : tE4 k (j : Nat) = true ∧ v4 k (j : Nat) = kv c ∧ c4 k (j : Nat) = flatN c ∧ e4 k k' (j : Nat) = (s.data.toList == s'.data.toList && (t.data.toList == t'.data.toList && eqN c c')) := by
  obtain ⟨a1, a2, a3, a4⟩ := flatN_at h
  obtain ⟨b1, b2, b3, b4⟩ := flatN_at h'
  have eo : o4 (j : Nat) = 4 * j := by unfold o4; rw [Int.toNat_natCast]; omega
  have ec : c4 k (j : Nat) = flatN c := by unfold c4 gC; rw [eo, a4]; rfl
  have ec' : c4 k' (j : Nat) = flatN c' := by unfold c4 gC; rw [eo, b4]; rfl
  refine ⟨?_, ?_, ec, ?_⟩
  · unfold tE4 isStr isInt isGsl
    rw [eo, a1, a2, a3, a4]; rfl
  · unfold v4
    rw [ec]
    unfold gL gO gX
    rw [eo, a4]; rfl
  · unfold e4
    rw [ec, ec', unN_flat, unN_flat]
    unfold strAt
    rw [eo, a1, a2, b1, b2]
theorem i64w2 {n : Nat} (h : n ≤ 4294967296) : IntKind.wrap .i64 ((n : Int) + 1) = ((n + 1 : Nat) : Int) := by rw [i64w]; omega
def x19 (b : Bool) : XA := bif b then .exit 0 else .ret
abbrev fin19 : St := stT [6] [.bool false] 32 (hV Lx.lq)
theorem cov19 {k k' : NL} {i : Int} {σ1 : St} (h : Covers (glV Lx.lq) (hV Lx.lq) (stT ts19 (vs19 k k' i) 32 (hV Lx.lq)) σ1) : Covers (glV Lx.lq) (hV Lx.lq) fin19 σ1 := by
  refine Covers.trans (b := stT ts19 (vs19 k k' i) 32 (hV Lx.lq)) (covers_T rfl (fun t v ht => ?_) rfl rfl) h
  have ht' : (Tr.set Tr.nil 6 (some (Value.bool false))).get t = some v := ht
  rw [Tr.get_set] at ht'
  by_cases h0 : t = 6
  · subst h0
    rw [if_pos rfl] at ht'
    cases ht'
    rfl
  · rw [if_neg h0, Tr.get_nil] at ht'; cases ht'
def Qk (k : NL) : Prop := ∀ j s t n c, k.at j = some (s, t, n, c) → Q11 c
theorem lp19 {k k' : NL} (hl : k.len = k'.len) (hb : k.len ≤ 4294967296) (hQ : Qk k) : LoopTri Tryd.prog (glV Lx.lq) (hV Lx.lq) (loopN Tryd.f19 0) (stT ts19 (vs19 k k' ((0 : Nat) : Int)) 32 (hV Lx.lq)) (x19 (eqN k k')) fin19 := by
  have := loop_rule (P := Tryd.prog) (X := {j : Nat // j ≤ k.len}) (regF_ok hmix) (qsA_ok GS_ok) noLO_ok (c := loopN Tryd.f19 0) (hE := hV Lx.lq) (fun j => stT ts19 (vs19 k k' (j.1 : Nat)) 32 (hV Lx.lq)) (fun j => k.len - j.1) (fun j => (x19 (eqN (k.dr j.1) (k'.dr j.1)), fin19)) ?_ ⟨0, Nat.zero_le _⟩
  · dsimp only at this
    rw [dr_zero, dr_zero] at this
    exact this
  rintro ⟨j, hj⟩
  dsimp only
  have h := t19 k k' (j : Nat)
  have gz : ∀ (i : Int) (x : XA), z19 k k' i x = some (x, vs19 k k' i, 32) := fun i x => by
    unfold z19
    rw [tst_of (kv_g k), tst_of (kv_g k')]; rfl
  by_cases hlt : j < k.len
  · obtain ⟨s, t, n, c, ha⟩ := at_lt hlt
    obtain ⟨s', t', n', c', ha'⟩ := at_lt (k := k') (j := j) (by omega)
    obtain ⟨e1, e2, e3, e5⟩ := e4_at ha ha'
    obtain ⟨f1, f2, f3, _⟩ := e4_at ha' ha
    rw [decide_eq_true (show (j : Int) < (k.len : Int) by omega), decide_eq_true (show (0 : Int) ≤ (j : Int) by omega), decide_eq_true (show (j : Int) < (k'.len : Int) by omega), e1, f1, e2, f2, e5, Lx.tE_t, tst_of (kv_g c), tst_of (kv_g c'), e3, f3, unN_flat, unN_flat, tst_of ⟨rfl, rfl, rfl, rfl, hQ j s t n c ha⟩, gz, gz, i64w2 (by omega)] at h
    simp only [cond_true, Bool.and_true] at h
    rw [dr_at ha, dr_at ha', er_cons]
    cases he : (s.data.toList == s'.data.toList && (t.data.toList == t'.data.toList && eqN c c')) with
    | true =>
      rw [he] at h
      obtain ⟨σ1, g1, g2⟩ := finZ_some Lx.lq_g (qsK_ok GS) noLK_ok h
      exact ⟨_, σ1, g1, .inl ⟨rfl, ⟨j + 1, hlt⟩, by dsimp only; omega, rfl, g2⟩⟩
    | false =>
      rw [he] at h
      obtain ⟨σ1, g1, g2⟩ := finZ_some Lx.lq_g (qsK_ok GS) noLK_ok h
      exact ⟨_, σ1, g1, .inr ⟨by simp, rfl, cov19 g2⟩⟩
  · obtain rfl : j = k.len := by omega
    rw [decide_eq_false (Int.lt_irrefl _), cond_false, gz] at h
    obtain ⟨σ1, g1, g2⟩ := finZ_some Lx.lq_g (qsK_ok GS) noLK_ok h
    refine ⟨_, σ1, g1, .inr ⟨by simp, ?_, cov19 g2⟩⟩
    rw [dr_end, hl, dr_end, eqN_nil]; rfl
noncomputable abbrev lk19 (k k' : NL) (x : XA) : LoopK Value := lkQ 4 ts19 (fun vs h z => some (tst (vs = vs19 k k' 0 ∧ h = hV Lx.lq ∧ z = 32), x, fin19)) noLK
noncomputable abbrev lo19 (k k' : NL) (x : XA) : LoopA := loQ 4 ts19 (fun vs h z => some (tst (vs = vs19 k k' 0 ∧ h = hV Lx.lq ∧ z = 32), x, fin19)) noLO
theorem l19 : loopsOf (bodyOf Tryd.f19) = [loopN Tryd.f19 0] := by kernel_rfl
noncomputable abbrev RE (k k' : NL) (x : XA) : Option Value := runQ Tryd.prog Lx.lq (qsA GS) (qsK GS) (lk19 k k' x) 1 Tryd.f19 [kv k, kv k', .func (.func 11) ⟨[]⟩ ⟨[]⟩]
theorem u19e (k k' : NL) : RE k k' (.exit 0) = bif (k.len : Int) != (k'.len : Int) then some (.bool false) else bif tst (vs19 k k' 0 = vs19 k k' 0 ∧ hV Lx.lq = hV Lx.lq ∧ 32 = 32) then some (.bool true) else none := by kernel_rfl
theorem u19r (k k' : NL) : RE k k' .ret = bif (k.len : Int) != (k'.len : Int) then some (.bool false) else bif tst (vs19 k k' 0 = vs19 k k' 0 ∧ hV Lx.lq = hV Lx.lq ∧ 32 = 32) then some (.bool false) else none := by kernel_rfl
theorem eqN_len {k k' : NL} (h : k.len ≠ k'.len) : eqN k k' = false := by
  cases he : eqN k k' with
  | false => rfl
  | true => exact absurd (len_er (of_tst he)) h
theorem con19 {k k' : NL} (hb : k.len ≤ 4294967296) (hQ : Qk k) : ConQ Tryd.prog Lx.lq 19 [kv k, kv k', .func (.func 11) ⟨[]⟩ ⟨[]⟩] (.bool (eqN k k')) := by
  by_cases hl : k.len = k'.len
  · have hlp := lp19 hl hb hQ
    have hLO : ∀ x, x = x19 (eqN k k') → LoopsOK Tryd.prog (glV Lx.lq) (hV Lx.lq) (lo19 k k' x) (loopsOf (bodyOf Tryd.f19)) := by
      rintro x rfl
      refine loQ_ok (fun c hc hr τ vs x' σ' hd hp h' => ?_) noLO_ok
      rw [l19, List.mem_singleton] at hc
      subst hc
      simp only [Option.some.injEq, Prod.mk.injEq] at h'
      obtain ⟨ht, rfl, rfl⟩ := h'
      obtain ⟨rfl, hh, hs⟩ := of_tst ht
      exact hlp.enter (covers_T hs (picks_mkT hp) hh.symm hd.symm)
    have hne : ((k.len : Int) != (k'.len : Int)) = false := by rw [hl]; simp
    cases he : eqN k k' with
    | true =>
      refine conQ hmix (qsA_ok GS_ok) (qsK_ok GS) (lkQ_ok noLK_ok) Tryd.func19 rfl (by kernel_rfl) (hLO (.exit 0) (by rw [he]; rfl)) (d := 1) ((u19e k k').trans ?_)
      rw [hne, tst_of ⟨rfl, rfl, rfl⟩]; rfl
    | false =>
      refine conQ hmix (qsA_ok GS_ok) (qsK_ok GS) (lkQ_ok noLK_ok) Tryd.func19 rfl (by kernel_rfl) (hLO .ret (by rw [he]; rfl)) (d := 1) ((u19r k k').trans ?_)
      rw [hne, tst_of ⟨rfl, rfl, rfl⟩]; rfl
  · have hne : ((k.len : Int) != (k'.len : Int)) = true := by rw [bne_iff_ne]; omega
    rw [eqN_len hl]
    refine conQ hmix (qsA_ok GS_ok) (qsK_ok GS) noLK_ok Tryd.func19 rfl (by kernel_rfl) noLO_ok (d := 1) ?_
    have : runQ Tryd.prog Lx.lq (qsA GS) (qsK GS) noLK 1 Tryd.f19 [kv k, kv k', .func (.func 11) ⟨[]⟩ ⟨[]⟩] = bif (k.len : Int) != (k'.len : Int) then some (.bool false) else none := by kernel_rfl
    rw [this, hne]; rfl
def Q19 (c c' : NL) : Prop := ConQ Tryd.prog Lx.lq 19 [kv c, kv c', .func (.func 11) ⟨[]⟩ ⟨[]⟩] (.bool (eqN c c'))
noncomputable def sF (ar : List Value) : Option (Bool × Value) := match ar with
  | [.iface ty (.tuple ⟨.slice none l off :: .bool ex :: cs⟩), .iface ty' (.tuple ⟨.slice none l' off' :: .bool ex' :: cs'⟩), .func (.func 11) ⟨[]⟩ ⟨[]⟩] =>
    some (tst (Value.iface ty (.tuple ⟨.slice none l off :: .bool ex :: cs⟩) = kv (unN cs) ∧ Value.iface ty' (.tuple ⟨.slice none l' off' :: .bool ex' :: cs'⟩) = kv (unN cs') ∧ Q19 (unN cs) (unN cs')), .bool (eqN (unN cs) (unN cs')))
  | _ => none
noncomputable def GE : TabF := andG 19 sF noG
theorem GE_ok : TabQ Tryd.prog Lx.lq GE := by
  refine andQ_ok Tryd.func19 rfl (by kernel_rfl) (fun ar v h => ?_) noQ_ok
  unfold sF at h
  split at h
  · simp only [Option.some.injEq, Prod.mk.injEq] at h
    obtain ⟨ht, rfl⟩ := h
    obtain ⟨h1, h2, h3⟩ := of_tst ht
    rw [h1, h2]
    exact h3
  · cases h
theorem t11 (s t : ByteArray) (n : Int) (c : NL) (s' t' : ByteArray) (n' : Int) (c' : NL) : runQ Tryd.prog Lx.lq (qsA GE) (qsK GE) noLK 1 Tryd.f11 [nodeV s t n c, nodeV s' t' n' c'] =
  bif s.data.toList == s'.data.toList then bif t.data.toList == t'.data.toList then bif Lx.tE then bif tst (GVal (kv c)) then bif tst (GVal (kv c')) then bif tst (kv c = kv (unN (flatN c)) ∧ kv c' = kv (unN (flatN c')) ∧ Q19 (unN (flatN c)) (unN (flatN c'))) then bif eqN (unN (flatN c)) (unN (flatN c')) then some (.bool true) else some (.bool false) else none else none else none else none else some (.bool false) else some (.bool false) := by kernel_rfl
theorem q11_of {c : NL} (hb : c.len ≤ 4294967296) (hQ : Qk c) : Q11 c := by
  intro s t n s' t' n' c'
  refine conQ hmix (qsA_ok GE_ok) (qsK_ok GE) noLK_ok Tryd.func11 rfl (by kernel_rfl) noLO_ok (d := 1) ((t11 s t n c s' t' n' c').trans ?_)
  rw [unN_flat, unN_flat, Lx.tE_t, tst_of (kv_g c), tst_of (kv_g c'), tst_of ⟨rfl, rfl, con19 hb hQ⟩]
  cases (s.data.toList == s'.data.toList) with
  | false => rfl
  | true =>
    cases (t.data.toList == t'.data.toList) with
    | false => rfl
    | true =>
      cases eqN c c' <;> rfl
/-- Rows that are no longer than rows are made. -/
def WNs : NL → Prop
  | .nil => True
  | .cons _ _ _ k r => k.len ≤ 4294967296 ∧ WNs k ∧ WNs r
theorem Qk_of : ∀ {k : NL}, WNs k → Qk k := by
  intro k
  induction k with
  | nil => intro _ j s t n c h; cases h
  | cons s t n c r ihc ihr =>
    intro h j s' t' n' c' ha
    obtain ⟨h1, h2, h3⟩ := h
    cases j with
    | zero =>
      cases ha
      exact q11_of h1 (ihc h2)
    | succ j => exact ihr h3 j s' t' n' c' ha
/-- tree.Same. -/
theorem same_con {c : NL} (h1 : c.len ≤ 4294967296) (h2 : WNs c) : Q11 c := q11_of h1 (Qk_of h2)
theorem WNs_snoc {s t : ByteArray} {n : Int} {c : NL} : ∀ {k : NL}, WNs k → c.len ≤ 4294967296 → WNs c → WNs (k.snoc s t n c) := by
  intro k
  induction k with
  | nil => intro _ h1 h2; exact ⟨h1, h2, trivial⟩
  | cons s' t' n' c' r _ ih =>
    intro h h1 h2
    exact ⟨h.1, h.2.1, ih h.2.2 h1 h2⟩
def OW {α : Type} (o : Option α) (Q : α → Prop) : Prop := ∀ r, o = some r → Q r
theorem ow_bind {α β : Type} {m : Option α} {k : α → Option β} {Q1 : α → Prop} {Q : β → Prop} (h : OW m Q1) (h2 : ∀ r, Q1 r → OW (k r) Q) : OW (ob m k) Q := by
  cases m with
  | none => intro r hr; cases hr
  | some x => exact h2 x (h x rfl)
theorem ow_cond {α : Type} {c : Bool} {x y : Option α} {Q : α → Prop} (h1 : OW x Q) (h2 : OW y Q) : OW (bif c then x else y) Q := by
  cases c with
  | true => exact h1
  | false => exact h2
theorem ow_has {α : Type} {c : Bool} {x : Option α} {Q : α → Prop} (h1 : OW x Q) : OW (bif c then x else none) Q := ow_cond h1 (fun r hr => by cases hr)
theorem ow_ble {α : Type} {m : Nat} {x : Option α} {Q : α → Prop} (h1 : m ≤ 4294967296 → OW x Q) : OW (bif Nat.ble m 4294967296 then x else none) Q := by
  cases h : Nat.ble m 4294967296 with
  | true => exact h1 (Nat.le_of_ble_eq_true h)
  | false => intro r hr; cases hr
theorem ow_some {α : Type} {v : α} {Q : α → Prop} (h : Q v) : OW (some v) Q := fun r hr => by cases hr; exact h
def WN (r : PR) : Prop := r.ks.len ≤ 4294967296 ∧ WNs r.ks
def WNy (k : NL) : Prop := k.len ≤ 4294967296 ∧ WNs k
theorem ow_iter {Y S : Type} {step : Y → S → Option (Bool × Y × S)} {I : Y → Prop} (hs : ∀ y s, I y → OW (step y s) (fun r => I r.2.1)) : ∀ (m : Nat) (y : Y) (s : S), I y → OW (iterY step m y s) (fun r => I r.1) := by
  intro m
  induction m with
  | zero => intro y s _ r hr; cases hr
  | succ m ih =>
    intro y s hI
    unfold iterY
    refine ow_bind (hs y s hI) fun r hr => ?_
    obtain ⟨b, y', s'⟩ := r
    exact ow_cond (ih y' s' hr) (ow_some hr)
abbrev HW (p : PF) : Prop := ∀ (g : FuncId) (x : PArg) (i d e a : Int), OW (p g x i d e a) WN
theorem ow_none {α : Type} {Q : α → Prop} : OW none Q := fun r hr => by cases hr
theorem wwYL {L : List Wd} {p : PF} (H : HW p) : (∀ (n : Nat) (y : YL) (s : SI), WNy (y.2.2.2) → OW (lp13 p L n y s) (fun r => WNy (r.1.2.2.2))) ∧ (∀ (n : Nat) (y : YL) (s : SI), WNy (y.2.2.2) → OW (lp24 p L n y s) (fun r => WNy (r.1.2.2.2))) ∧ (∀ (n : Nat) (y : YL) (s : SI), WNy (y.2.2.2) → OW (lp50 p L n y s) (fun r => WNy (r.1.2.2.2))) ∧ (∀ (n : Nat) (y : YL) (s : SI), WNy (y.2.2.2) → OW (lp60 p L n y s) (fun r => WNy (r.1.2.2.2))) ∧ (∀ (n : Nat) (y : YL) (s : SI), WNy (y.2.2.2) → OW (lp47c p L n y s) (fun r => WNy (r.1.2.2.2))) ∧ (∀ (n : Nat) (y : YL) (s : SI), WNy (y.2.2.2) → OW (lp87 p L n y s) (fun r => WNy (r.1.2.2.2))) := by
  refine ⟨fun n => ow_iter (I := fun (y : YL) => WNy (y.2.2.2)) ?_ n, fun n => ow_iter (I := fun (y : YL) => WNy (y.2.2.2)) ?_ n, fun n => ow_iter (I := fun (y : YL) => WNy (y.2.2.2)) ?_ n, fun n => ow_iter (I := fun (y : YL) => WNy (y.2.2.2)) ?_ n, fun n => ow_iter (I := fun (y : YL) => WNy (y.2.2.2)) ?_ n, fun n => ow_iter (I := fun (y : YL) => WNy (y.2.2.2)) ?_ n⟩
  all_goals
    rintro ⟨s, t, k, ks⟩ ⟨i, d, e, a⟩ ⟨h0, g0⟩
    dsimp only at h0 g0 ⊢
    first | unfold st13 | unfold st24 | unfold st50 | unfold st60 | unfold st47c | unfold stP87
    repeat' first
      | exact ow_none
      | (refine ow_bind (H _ _ _ _ _ _) ?_; intro r h; obtain ⟨h, g⟩ := h)
      | refine ow_ble (fun hb => ?_)
      | refine ow_has ?_
      | refine ow_cond ?_ ?_
      | exact ow_some (by (simp only [WN, WNy, WNs, NL.len, NL.snoc_len, cond_true, cond_false]; repeat' apply And.intro) <;> first | trivial | assumption | omega | exact WNs_snoc (by assumption) (by assumption) (by assumption))
theorem wwNL {L : List Wd} {p : PF} (H : HW p) : (∀ (n : Nat) (y : NL) (s : SI), WNy (y) → OW (lp47 p L 46 n y s) (fun r => WNy (r.1))) ∧ (∀ (n : Nat) (y : NL) (s : SI), WNy (y) → OW (lp47 p L 89 n y s) (fun r => WNy (r.1))) := by
  refine ⟨fun n => ow_iter (I := fun (y : NL) => WNy (y)) ?_ n, fun n => ow_iter (I := fun (y : NL) => WNy (y)) ?_ n⟩
  all_goals
    rintro ks ⟨i, d, e, a⟩ ⟨h0, g0⟩
    dsimp only at h0 g0 ⊢
    first | unfold st47g46 | unfold st47g89
    repeat' first
      | exact ow_none
      | (refine ow_bind (H _ _ _ _ _ _) ?_; intro r h; obtain ⟨h, g⟩ := h)
      | refine ow_ble (fun hb => ?_)
      | refine ow_has ?_
      | refine ow_cond ?_ ?_
      | exact ow_some (by (simp only [WN, WNy, WNs, NL.len, NL.snoc_len, cond_true, cond_false]; repeat' apply And.intro) <;> first | trivial | assumption | omega | exact WNs_snoc (by assumption) (by assumption) (by assumption))
theorem wwYR {L : List Wd} {p : PF} (H : HW p) {x : Int} : (∀ (n : Nat) (y : YR) (s : SI), WNy (y.1.2.2.2) → OW (lp69 p L 0 x n y s) (fun r => WNy (r.1.1.2.2.2))) ∧ (∀ (n : Nat) (y : YR) (s : SI), WNy (y.1.2.2.2) → OW (lp69 p L 1 x n y s) (fun r => WNy (r.1.1.2.2.2))) ∧ (∀ (n : Nat) (y : YR) (s : SI), WNy (y.1.2.2.2) → OW (lp69 p L 2 x n y s) (fun r => WNy (r.1.1.2.2.2))) ∧ (∀ (n : Nat) (y : YR) (s : SI), WNy (y.1.2.2.2) → OW (lp69 p L 3 x n y s) (fun r => WNy (r.1.1.2.2.2))) ∧ (∀ (n : Nat) (y : YR) (s : SI), WNy (y.1.2.2.2) → OW (lp69 p L 4 x n y s) (fun r => WNy (r.1.1.2.2.2))) := by
  refine ⟨fun n => ow_iter (I := fun (y : YR) => WNy (y.1.2.2.2)) ?_ n, fun n => ow_iter (I := fun (y : YR) => WNy (y.1.2.2.2)) ?_ n, fun n => ow_iter (I := fun (y : YR) => WNy (y.1.2.2.2)) ?_ n, fun n => ow_iter (I := fun (y : YR) => WNy (y.1.2.2.2)) ?_ n, fun n => ow_iter (I := fun (y : YR) => WNy (y.1.2.2.2)) ?_ n⟩
  all_goals
    rintro ⟨⟨s, t, k, ks⟩, j⟩ ⟨i, d, e, a⟩ ⟨h0, g0⟩
    dsimp only at h0 g0 ⊢
    first | unfold stR0 | unfold stR1 | unfold stR2 | unfold stR3 | unfold stR4
    repeat' first
      | exact ow_none
      | (refine ow_bind (H _ _ _ _ _ _) ?_; intro r h; obtain ⟨h, g⟩ := h)
      | refine ow_ble (fun hb => ?_)
      | refine ow_has ?_
      | refine ow_cond ?_ ?_
      | exact ow_some (by (simp only [WN, WNy, WNs, NL.len, NL.snoc_len, cond_true, cond_false]; repeat' apply And.intro) <;> first | trivial | assumption | omega | exact WNs_snoc (by assumption) (by assumption) (by assumption))
set_option maxHeartbeats 0 in
theorem wwF {L : List Wd} {p : PF} (H : HW p) {n : Nat} : (∀ (x : ByteArray) (i d e a : Int), OW (F22 p L n x i d e a) WN) ∧ (∀ (i d e a : Int), OW (F24 p L n i d e a) WN) ∧ (∀ (x : ByteArray) (i d e a : Int), OW (F34 p L n x i d e a) WN) ∧ (∀ (i d e a : Int), OW (F35 p L n i d e a) WN) ∧ (∀ (x : ByteArray) (i d e a : Int), OW (F36 p L n x i d e a) WN) ∧ (∀ (x : List ByteArray) (i d e a : Int), OW (F37 p L n x i d e a) WN) ∧ (∀ (x : ByteArray) (i d e a : Int), OW (F38 p L n x i d e a) WN) ∧ (∀ (i d e a : Int), OW (F39 p L n i d e a) WN) ∧ (∀ (x : Int) (i d e a : Int), OW (F40 p L n x i d e a) WN) ∧ (∀ (i d e a : Int), OW (F44 p L n i d e a) WN) ∧ (∀ (i d e a : Int), OW (F46 p L n i d e a) WN) ∧ (∀ (i d e a : Int), OW (F49 p L n i d e a) WN) ∧ (∀ (i d e a : Int), OW (F50 p L n i d e a) WN) ∧ (∀ (i d e a : Int), OW (F58 p L n i d e a) WN) ∧ (∀ (i d e a : Int), OW (F59 p L n i d e a) WN) ∧ (∀ (i d e a : Int), OW (F60 p L n i d e a) WN) ∧ (∀ (i d e a : Int), OW (F64 p L n i d e a) WN) ∧ (∀ (i d e a : Int), OW (F65 p L n i d e a) WN) ∧ (∀ (i d e a : Int), OW (F66 p L n i d e a) WN) ∧ (∀ (i d e a : Int), OW (F67 p L n i d e a) WN) ∧ (∀ (i d e a : Int), OW (F70 p L n i d e a) WN) ∧ (∀ (i d e a : Int), OW (F72 p L n i d e a) WN) ∧ (∀ (i d e a : Int), OW (F77 p L n i d e a) WN) ∧ (∀ (i d e a : Int), OW (F83 p L n i d e a) WN) ∧ (∀ (i d e a : Int), OW (F86 p L n i d e a) WN) ∧ (∀ (i d e a : Int), OW (F87 p L n i d e a) WN) ∧ (∀ (i d e a : Int), OW (F88 p L n i d e a) WN) ∧ (∀ (i d e a : Int), OW (F89 p L n i d e a) WN) ∧ (∀ (i d e a : Int), OW (F13 p L n i d e a) WN) ∧ (∀ (i d e a : Int), OW (F47_46 p L n i d e a) WN) ∧ (∀ (i d e a : Int), OW (F47_89 p L n i d e a) WN) ∧ (∀ (x : Int) (i d e a : Int), OW (F69_0 p L n x i d e a) WN) ∧ (∀ (x : Int) (i d e a : Int), OW (F69_1 p L n x i d e a) WN) ∧ (∀ (x : Int) (i d e a : Int), OW (F69_2 p L n x i d e a) WN) ∧ (∀ (x : Int) (i d e a : Int), OW (F69_3 p L n x i d e a) WN) ∧ (∀ (x : Int) (i d e a : Int), OW (F69_4 p L n x i d e a) WN) := by
  refine ⟨?_, ?_, ?_, ?_, ?_, ?_, ?_, ?_, ?_, ?_, ?_, ?_, ?_, ?_, ?_, ?_, ?_, ?_, ?_, ?_, ?_, ?_, ?_, ?_, ?_, ?_, ?_, ?_, ?_, ?_, ?_, ?_, ?_, ?_, ?_, ?_⟩
  all_goals
    intros
    first | unfold F22 | unfold F24 | unfold F34 | unfold F35 | unfold F36 | unfold F37 | unfold F38 | unfold F39 | unfold F40 | unfold F44 | unfold F46 | unfold F49 | unfold F50 | unfold F58 | unfold F59 | unfold F60 | unfold F64 | unfold F65 | unfold F66 | unfold F67 | unfold F70 | unfold F72 | unfold F77 | unfold F83 | unfold F86 | unfold F87 | unfold F88 | unfold F89 | unfold F13 | unfold F47_46 | unfold F47_89 | unfold F69_0 | unfold F69_1 | unfold F69_2 | unfold F69_3 | unfold F69_4
    repeat' first
      | exact ow_none
      | (refine ow_bind (H _ _ _ _ _ _) ?_; intro r h; obtain ⟨h, g⟩ := h)
      | (refine ow_bind (((wwYL H).1) _ _ _ (by (simp only [WN, WNy, WNs, NL.len, NL.snoc_len, cond_true, cond_false]; repeat' apply And.intro) <;> first | trivial | assumption | omega | exact WNs_snoc (by assumption) (by assumption) (by assumption))) ?_; intro r h; obtain ⟨h, g⟩ := h)
      | (refine ow_bind (((wwYL H).2.1) _ _ _ (by (simp only [WN, WNy, WNs, NL.len, NL.snoc_len, cond_true, cond_false]; repeat' apply And.intro) <;> first | trivial | assumption | omega | exact WNs_snoc (by assumption) (by assumption) (by assumption))) ?_; intro r h; obtain ⟨h, g⟩ := h)
      | (refine ow_bind (((wwYL H).2.2.1) _ _ _ (by (simp only [WN, WNy, WNs, NL.len, NL.snoc_len, cond_true, cond_false]; repeat' apply And.intro) <;> first | trivial | assumption | omega | exact WNs_snoc (by assumption) (by assumption) (by assumption))) ?_; intro r h; obtain ⟨h, g⟩ := h)
      | (refine ow_bind (((wwYL H).2.2.2.1) _ _ _ (by (simp only [WN, WNy, WNs, NL.len, NL.snoc_len, cond_true, cond_false]; repeat' apply And.intro) <;> first | trivial | assumption | omega | exact WNs_snoc (by assumption) (by assumption) (by assumption))) ?_; intro r h; obtain ⟨h, g⟩ := h)
      | (refine ow_bind (((wwYL H).2.2.2.2.1) _ _ _ (by (simp only [WN, WNy, WNs, NL.len, NL.snoc_len, cond_true, cond_false]; repeat' apply And.intro) <;> first | trivial | assumption | omega | exact WNs_snoc (by assumption) (by assumption) (by assumption))) ?_; intro r h; obtain ⟨h, g⟩ := h)
      | (refine ow_bind (((wwYL H).2.2.2.2.2) _ _ _ (by (simp only [WN, WNy, WNs, NL.len, NL.snoc_len, cond_true, cond_false]; repeat' apply And.intro) <;> first | trivial | assumption | omega | exact WNs_snoc (by assumption) (by assumption) (by assumption))) ?_; intro r h; obtain ⟨h, g⟩ := h)
      | (refine ow_bind (((wwNL H).1) _ _ _ (by (simp only [WN, WNy, WNs, NL.len, NL.snoc_len, cond_true, cond_false]; repeat' apply And.intro) <;> first | trivial | assumption | omega | exact WNs_snoc (by assumption) (by assumption) (by assumption))) ?_; intro r h; obtain ⟨h, g⟩ := h)
      | (refine ow_bind (((wwNL H).2) _ _ _ (by (simp only [WN, WNy, WNs, NL.len, NL.snoc_len, cond_true, cond_false]; repeat' apply And.intro) <;> first | trivial | assumption | omega | exact WNs_snoc (by assumption) (by assumption) (by assumption))) ?_; intro r h; obtain ⟨h, g⟩ := h)
      | (refine ow_bind (((wwYR H).1) _ _ _ (by (simp only [WN, WNy, WNs, NL.len, NL.snoc_len, cond_true, cond_false]; repeat' apply And.intro) <;> first | trivial | assumption | omega | exact WNs_snoc (by assumption) (by assumption) (by assumption))) ?_; intro r h; obtain ⟨h, g⟩ := h)
      | (refine ow_bind (((wwYR H).2.1) _ _ _ (by (simp only [WN, WNy, WNs, NL.len, NL.snoc_len, cond_true, cond_false]; repeat' apply And.intro) <;> first | trivial | assumption | omega | exact WNs_snoc (by assumption) (by assumption) (by assumption))) ?_; intro r h; obtain ⟨h, g⟩ := h)
      | (refine ow_bind (((wwYR H).2.2.1) _ _ _ (by (simp only [WN, WNy, WNs, NL.len, NL.snoc_len, cond_true, cond_false]; repeat' apply And.intro) <;> first | trivial | assumption | omega | exact WNs_snoc (by assumption) (by assumption) (by assumption))) ?_; intro r h; obtain ⟨h, g⟩ := h)
      | (refine ow_bind (((wwYR H).2.2.2.1) _ _ _ (by (simp only [WN, WNy, WNs, NL.len, NL.snoc_len, cond_true, cond_false]; repeat' apply And.intro) <;> first | trivial | assumption | omega | exact WNs_snoc (by assumption) (by assumption) (by assumption))) ?_; intro r h; obtain ⟨h, g⟩ := h)
      | (refine ow_bind (((wwYR H).2.2.2.2) _ _ _ (by (simp only [WN, WNy, WNs, NL.len, NL.snoc_len, cond_true, cond_false]; repeat' apply And.intro) <;> first | trivial | assumption | omega | exact WNs_snoc (by assumption) (by assumption) (by assumption))) ?_; intro r h; obtain ⟨h, g⟩ := h)
      | refine ow_ble (fun hb => ?_)
      | refine ow_has ?_
      | refine ow_cond ?_ ?_
      | exact ow_some (by (simp only [WN, WNy, WNs, NL.len, NL.snoc_len, cond_true, cond_false]; repeat' apply And.intro) <;> first | trivial | assumption | omega | exact WNs_snoc (by assumption) (by assumption) (by assumption))
theorem ow_and {k : FuncId} {f : PArg → Int → Int → Int → Int → Option PR} {q : PF} (hf : ∀ x i d e a, OW (f x i d e a) WN) (hq : HW q) : HW (andP k f q) := by
  intro g x i d e a
  unfold andP
  cases Nat.beq g k with
  | true => exact hf x i d e a
  | false => exact hq g x i d e a
theorem v22 {L : List Wd} {p : PF} (H : HW p) {n : Nat} (x : PArg) (i d e a : Int) : OW (e22 p L n x i d e a) WN := by
  cases x with
  | s y => exact ((wwF (L := L) (n := n) H).1) _ _ _ _ _
  | _ => exact ow_none
theorem v24 {L : List Wd} {p : PF} (H : HW p) {n : Nat} (x : PArg) (i d e a : Int) : OW (e24 p L n x i d e a) WN := by
  cases x with
  | u => exact ((wwF (L := L) (n := n) H).2.1) _ _ _ _
  | _ => exact ow_none
theorem v34 {L : List Wd} {p : PF} (H : HW p) {n : Nat} (x : PArg) (i d e a : Int) : OW (e34 p L n x i d e a) WN := by
  cases x with
  | s y => exact ((wwF (L := L) (n := n) H).2.2.1) _ _ _ _ _
  | _ => exact ow_none
theorem v35 {L : List Wd} {p : PF} (H : HW p) {n : Nat} (x : PArg) (i d e a : Int) : OW (e35 p L n x i d e a) WN := by
  cases x with
  | u => exact ((wwF (L := L) (n := n) H).2.2.2.1) _ _ _ _
  | _ => exact ow_none
theorem v36 {L : List Wd} {p : PF} (H : HW p) {n : Nat} (x : PArg) (i d e a : Int) : OW (e36 p L n x i d e a) WN := by
  cases x with
  | s y => exact ((wwF (L := L) (n := n) H).2.2.2.2.1) _ _ _ _ _
  | _ => exact ow_none
theorem v37 {L : List Wd} {p : PF} (H : HW p) {n : Nat} (x : PArg) (i d e a : Int) : OW (e37 p L n x i d e a) WN := by
  cases x with
  | x y => exact ((wwF (L := L) (n := n) H).2.2.2.2.2.1) _ _ _ _ _
  | _ => exact ow_none
theorem v38 {L : List Wd} {p : PF} (H : HW p) {n : Nat} (x : PArg) (i d e a : Int) : OW (e38 p L n x i d e a) WN := by
  cases x with
  | s y => exact ((wwF (L := L) (n := n) H).2.2.2.2.2.2.1) _ _ _ _ _
  | _ => exact ow_none
theorem v39 {L : List Wd} {p : PF} (H : HW p) {n : Nat} (x : PArg) (i d e a : Int) : OW (e39 p L n x i d e a) WN := by
  cases x with
  | u => exact ((wwF (L := L) (n := n) H).2.2.2.2.2.2.2.1) _ _ _ _
  | _ => exact ow_none
theorem v40 {L : List Wd} {p : PF} (H : HW p) {n : Nat} (x : PArg) (i d e a : Int) : OW (e40 p L n x i d e a) WN := by
  cases x with
  | i y => exact ((wwF (L := L) (n := n) H).2.2.2.2.2.2.2.2.1) _ _ _ _ _
  | _ => exact ow_none
theorem v44 {L : List Wd} {p : PF} (H : HW p) {n : Nat} (x : PArg) (i d e a : Int) : OW (e44 p L n x i d e a) WN := by
  cases x with
  | u => exact ((wwF (L := L) (n := n) H).2.2.2.2.2.2.2.2.2.1) _ _ _ _
  | _ => exact ow_none
theorem v46 {L : List Wd} {p : PF} (H : HW p) {n : Nat} (x : PArg) (i d e a : Int) : OW (e46 p L n x i d e a) WN := by
  cases x with
  | u => exact ((wwF (L := L) (n := n) H).2.2.2.2.2.2.2.2.2.2.1) _ _ _ _
  | _ => exact ow_none
theorem v49 {L : List Wd} {p : PF} (H : HW p) {n : Nat} (x : PArg) (i d e a : Int) : OW (e49 p L n x i d e a) WN := by
  cases x with
  | u => exact ((wwF (L := L) (n := n) H).2.2.2.2.2.2.2.2.2.2.2.1) _ _ _ _
  | _ => exact ow_none
theorem v50 {L : List Wd} {p : PF} (H : HW p) {n : Nat} (x : PArg) (i d e a : Int) : OW (e50 p L n x i d e a) WN := by
  cases x with
  | u => exact ((wwF (L := L) (n := n) H).2.2.2.2.2.2.2.2.2.2.2.2.1) _ _ _ _
  | _ => exact ow_none
theorem v58 {L : List Wd} {p : PF} (H : HW p) {n : Nat} (x : PArg) (i d e a : Int) : OW (e58 p L n x i d e a) WN := by
  cases x with
  | u => exact ((wwF (L := L) (n := n) H).2.2.2.2.2.2.2.2.2.2.2.2.2.1) _ _ _ _
  | _ => exact ow_none
theorem v59 {L : List Wd} {p : PF} (H : HW p) {n : Nat} (x : PArg) (i d e a : Int) : OW (e59 p L n x i d e a) WN := by
  cases x with
  | u => exact ((wwF (L := L) (n := n) H).2.2.2.2.2.2.2.2.2.2.2.2.2.2.1) _ _ _ _
  | _ => exact ow_none
theorem v60 {L : List Wd} {p : PF} (H : HW p) {n : Nat} (x : PArg) (i d e a : Int) : OW (e60 p L n x i d e a) WN := by
  cases x with
  | u => exact ((wwF (L := L) (n := n) H).2.2.2.2.2.2.2.2.2.2.2.2.2.2.2.1) _ _ _ _
  | _ => exact ow_none
theorem v64 {L : List Wd} {p : PF} (H : HW p) {n : Nat} (x : PArg) (i d e a : Int) : OW (e64 p L n x i d e a) WN := by
  cases x with
  | u => exact ((wwF (L := L) (n := n) H).2.2.2.2.2.2.2.2.2.2.2.2.2.2.2.2.1) _ _ _ _
  | _ => exact ow_none
theorem v65 {L : List Wd} {p : PF} (H : HW p) {n : Nat} (x : PArg) (i d e a : Int) : OW (e65 p L n x i d e a) WN := by
  cases x with
  | u => exact ((wwF (L := L) (n := n) H).2.2.2.2.2.2.2.2.2.2.2.2.2.2.2.2.2.1) _ _ _ _
  | _ => exact ow_none
theorem v66 {L : List Wd} {p : PF} (H : HW p) {n : Nat} (x : PArg) (i d e a : Int) : OW (e66 p L n x i d e a) WN := by
  cases x with
  | u => exact ((wwF (L := L) (n := n) H).2.2.2.2.2.2.2.2.2.2.2.2.2.2.2.2.2.2.1) _ _ _ _
  | _ => exact ow_none
theorem v67 {L : List Wd} {p : PF} (H : HW p) {n : Nat} (x : PArg) (i d e a : Int) : OW (e67 p L n x i d e a) WN := by
  cases x with
  | u => exact ((wwF (L := L) (n := n) H).2.2.2.2.2.2.2.2.2.2.2.2.2.2.2.2.2.2.2.1) _ _ _ _
  | _ => exact ow_none
theorem v70 {L : List Wd} {p : PF} (H : HW p) {n : Nat} (x : PArg) (i d e a : Int) : OW (e70 p L n x i d e a) WN := by
  cases x with
  | u => exact ((wwF (L := L) (n := n) H).2.2.2.2.2.2.2.2.2.2.2.2.2.2.2.2.2.2.2.2.1) _ _ _ _
  | _ => exact ow_none
theorem v72 {L : List Wd} {p : PF} (H : HW p) {n : Nat} (x : PArg) (i d e a : Int) : OW (e72 p L n x i d e a) WN := by
  cases x with
  | u => exact ((wwF (L := L) (n := n) H).2.2.2.2.2.2.2.2.2.2.2.2.2.2.2.2.2.2.2.2.2.1) _ _ _ _
  | _ => exact ow_none
theorem v77 {L : List Wd} {p : PF} (H : HW p) {n : Nat} (x : PArg) (i d e a : Int) : OW (e77 p L n x i d e a) WN := by
  cases x with
  | u => exact ((wwF (L := L) (n := n) H).2.2.2.2.2.2.2.2.2.2.2.2.2.2.2.2.2.2.2.2.2.2.1) _ _ _ _
  | _ => exact ow_none
theorem v83 {L : List Wd} {p : PF} (H : HW p) {n : Nat} (x : PArg) (i d e a : Int) : OW (e83 p L n x i d e a) WN := by
  cases x with
  | u => exact ((wwF (L := L) (n := n) H).2.2.2.2.2.2.2.2.2.2.2.2.2.2.2.2.2.2.2.2.2.2.2.1) _ _ _ _
  | _ => exact ow_none
theorem v86 {L : List Wd} {p : PF} (H : HW p) {n : Nat} (x : PArg) (i d e a : Int) : OW (e86 p L n x i d e a) WN := by
  cases x with
  | u => exact ((wwF (L := L) (n := n) H).2.2.2.2.2.2.2.2.2.2.2.2.2.2.2.2.2.2.2.2.2.2.2.2.1) _ _ _ _
  | _ => exact ow_none
theorem v87 {L : List Wd} {p : PF} (H : HW p) {n : Nat} (x : PArg) (i d e a : Int) : OW (e87 p L n x i d e a) WN := by
  cases x with
  | u => exact ((wwF (L := L) (n := n) H).2.2.2.2.2.2.2.2.2.2.2.2.2.2.2.2.2.2.2.2.2.2.2.2.2.1) _ _ _ _
  | _ => exact ow_none
theorem v88 {L : List Wd} {p : PF} (H : HW p) {n : Nat} (x : PArg) (i d e a : Int) : OW (e88 p L n x i d e a) WN := by
  cases x with
  | u => exact ((wwF (L := L) (n := n) H).2.2.2.2.2.2.2.2.2.2.2.2.2.2.2.2.2.2.2.2.2.2.2.2.2.2.1) _ _ _ _
  | _ => exact ow_none
theorem v89 {L : List Wd} {p : PF} (H : HW p) {n : Nat} (x : PArg) (i d e a : Int) : OW (e89 p L n x i d e a) WN := by
  cases x with
  | u => exact ((wwF (L := L) (n := n) H).2.2.2.2.2.2.2.2.2.2.2.2.2.2.2.2.2.2.2.2.2.2.2.2.2.2.2.1) _ _ _ _
  | _ => exact ow_none
theorem v13 {L : List Wd} {p : PF} (H : HW p) {n : Nat} (x : PArg) (i d e a : Int) : OW (e13 p L n x i d e a) WN := by
  cases x with
  | u => exact ((wwF (L := L) (n := n) H).2.2.2.2.2.2.2.2.2.2.2.2.2.2.2.2.2.2.2.2.2.2.2.2.2.2.2.2.1) _ _ _ _
  | _ => exact ow_none
theorem v47 {L : List Wd} {p : PF} (H : HW p) {n : Nat} (x : PArg) (i d e a : Int) : OW (e47 p L n x i d e a) WN := by
  cases x with
  | f g =>
    unfold e47
    dsimp only
    split
    · exact ((wwF (L := L) (n := n) H).2.2.2.2.2.2.2.2.2.2.2.2.2.2.2.2.2.2.2.2.2.2.2.2.2.2.2.2.2.1) _ _ _ _
    · exact ((wwF (L := L) (n := n) H).2.2.2.2.2.2.2.2.2.2.2.2.2.2.2.2.2.2.2.2.2.2.2.2.2.2.2.2.2.2.1) _ _ _ _
    · exact ow_none
  | _ => exact ow_none
theorem v69 {L : List Wd} {p : PF} (H : HW p) {n : Nat} (x : PArg) (i d e a : Int) : OW (e69 p L n x i d e a) WN := by
  cases x with
  | r y g c =>
    unfold e69
    dsimp only
    split
    · exact ((wwF (L := L) (n := n) H).2.2.2.2.2.2.2.2.2.2.2.2.2.2.2.2.2.2.2.2.2.2.2.2.2.2.2.2.2.2.2.1) _ _ _ _ _
    split
    · exact ((wwF (L := L) (n := n) H).2.2.2.2.2.2.2.2.2.2.2.2.2.2.2.2.2.2.2.2.2.2.2.2.2.2.2.2.2.2.2.2.1) _ _ _ _ _
    split
    · exact ((wwF (L := L) (n := n) H).2.2.2.2.2.2.2.2.2.2.2.2.2.2.2.2.2.2.2.2.2.2.2.2.2.2.2.2.2.2.2.2.2.1) _ _ _ _ _
    split
    · exact ((wwF (L := L) (n := n) H).2.2.2.2.2.2.2.2.2.2.2.2.2.2.2.2.2.2.2.2.2.2.2.2.2.2.2.2.2.2.2.2.2.2.1) _ _ _ _ _
    split
    · exact ((wwF (L := L) (n := n) H).2.2.2.2.2.2.2.2.2.2.2.2.2.2.2.2.2.2.2.2.2.2.2.2.2.2.2.2.2.2.2.2.2.2.2) _ _ _ _ _
    exact ow_none
  | _ => exact ow_none
theorem owPP {L : List Wd} {p : PF} (H : HW p) (n : Nat) : HW (PP p L n) := ow_and (v13 (L := L) (n := n) H) (ow_and (v22 (L := L) (n := n) H) (ow_and (v24 (L := L) (n := n) H) (ow_and (v34 (L := L) (n := n) H) (ow_and (v35 (L := L) (n := n) H) (ow_and (v36 (L := L) (n := n) H) (ow_and (v37 (L := L) (n := n) H) (ow_and (v38 (L := L) (n := n) H) (ow_and (v39 (L := L) (n := n) H) (ow_and (v40 (L := L) (n := n) H) (ow_and (v44 (L := L) (n := n) H) (ow_and (v46 (L := L) (n := n) H) (ow_and (v47 (L := L) (n := n) H) (ow_and (v49 (L := L) (n := n) H) (ow_and (v50 (L := L) (n := n) H) (ow_and (v58 (L := L) (n := n) H) (ow_and (v59 (L := L) (n := n) H) (ow_and (v60 (L := L) (n := n) H) (ow_and (v64 (L := L) (n := n) H) (ow_and (v65 (L := L) (n := n) H) (ow_and (v66 (L := L) (n := n) H) (ow_and (v67 (L := L) (n := n) H) (ow_and (v69 (L := L) (n := n) H) (ow_and (v70 (L := L) (n := n) H) (ow_and (v72 (L := L) (n := n) H) (ow_and (v77 (L := L) (n := n) H) (ow_and (v83 (L := L) (n := n) H) (ow_and (v86 (L := L) (n := n) H) (ow_and (v87 (L := L) (n := n) H) (ow_and (v88 (L := L) (n := n) H) (ow_and (v89 (L := L) (n := n) H) ((fun g x i d e a => ow_none))))))))))))))))))))))))))))))))
theorem wn_all (L : List Wd) : ∀ n, HW (pn L n)
  | 0 => fun g x i d e a => ow_none
  | n + 1 => owPP (wn_all L n) n
end Go.Proofs.YtachednafdmmaaaDoor.AI
