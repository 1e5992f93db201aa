/- The parser. -/
import Derived.Test.YtachednafdmmaaaDoorPP2
import Derived.KernelRfl
namespace Go.Proofs.YtachednafdmmaaaDoor.AI
open Go Go.RowKit 
set_option linter.unusedVariables false
set_option linter.unusedSimpArgs false
def OKr {α : Type} (o : Option α) (Q : α → Prop) : Prop := ∃ r, o = some r ∧ Q r
theorem ok_bind {α β : Type} {m : Option α} {k : α → Option β} {Q1 : α → Prop} {Q : β → Prop} (h : OKr m Q1) (h2 : ∀ r, Q1 r → OKr (k r) Q) : OKr (ob m k) Q := by
  obtain ⟨r, rfl, hr⟩ := h
  exact h2 r hr
theorem ok_cond {α : Type} {c : Bool} {x y : Option α} {Q : α → Prop} (h1 : c = true → OKr x Q) (h2 : c = false → OKr y Q) : OKr (bif c then x else y) Q := by
  cases c with
  | true => exact h1 rfl
  | false => exact h2 rfl
theorem ok_some {α : Type} {v : α} {Q : α → Prop} (h : Q v) : OKr (some v) Q := ⟨v, rfl, h⟩
theorem ok_ble {α : Type} {m : Nat} {x : Option α} {Q : α → Prop} (h : m ≤ 4294967296) (hx : OKr x Q) : OKr (bif Nat.ble m 4294967296 then x else none) Q := by
  rw [Nat.ble_eq_true_of_le h]; exact hx
/-- Rows of words that the parser is given. -/
structure LOk (L : List Wd) : Prop where
  len : L.length ≤ 1000000
  pos : 0 < L.length
  kz : (rd L).k ((L.length : Int) - 1) = 0
theorem ok_has {α : Type} {L : List Wd} (hL : LOk L) {i : Int} {x : Option α} {Q : α → Prop} (h1 : 0 ≤ i) (h2 : i ≤ (L.length : Int) - 1) (hx : OKr x Q) : OKr (bif Rd.has (rd L) i then x else none) Q := by
  have : Rd.has (rd L) i = true := by
    unfold Rd.has
    show (decide (0 ≤ i) && decide (i < (L.length : Int))) = true
    rw [decide_eq_true h1, decide_eq_true (by omega)]; rfl
  rw [this]; exact hx
theorem k_lt {L : List Wd} (hL : LOk L) {i : Int} (h : (rd L).k i ≠ 0) (h1 : 0 ≤ i) (h2 : i ≤ (L.length : Int) - 1) : i < (L.length : Int) - 1 := by
  by_cases e : i = (L.length : Int) - 1
  · rw [e, hL.kz] at h; exact absurd rfl h
  · omega
theorem k_eq {x c : Int} (h : (x == c) = true) (hc : c ≠ 0) : x ≠ 0 := by rw [eq_of_beq h]; exact hc
theorem k_ne {x : Int} (h : (x != 0) = true) : x ≠ 0 := by simpa using h
theorem k_nn {x c : Int} (h : (x != c) = false) (hc : c ≠ 0) : x ≠ 0 := by
  have : x = c := by simpa using h
  rw [this]; exact hc
theorem i_eq {x : Int} (h : (x == 0) = true) : x = 0 := eq_of_beq h
theorem i_ne {x : Int} (h : (x == 0) = false) : x ≠ 0 := by simpa using h
set_option linter.defProp false in
def ST := And.intro @true_and (And.intro @and_true (And.intro @true_implies (And.intro @Bool.false_eq_true (And.intro @false_implies (@Bool.true_eq_false)))))
/-- Where a function may be begun (so much fuel, so high a rank). -/
def Pre (L : List Wd) (n : Nat) (ρ : Int) (i d e : Int) : Prop := 0 ≤ i ∧ i ≤ (L.length : Int) - 1 ∧ (e ≠ 0 → i = (L.length : Int) - 1) ∧ 0 ≤ d ∧ d + ρ ≤ 200 ∧ (e = 0 → d ≤ 60) ∧ ((L.length : Int) - 1 - i) * 64 + ρ < (n : Int)
def LPre (L : List Wd) (n : Nat) (ρ : Int) (i d e : Int) : Prop := 0 ≤ i ∧ i ≤ (L.length : Int) - 1 ∧ (e ≠ 0 → i = (L.length : Int) - 1) ∧ 0 ≤ d ∧ d ≤ 188 ∧ (e = 0 → d ≤ 60) ∧ (e = 0 → ((L.length : Int) - 1 - i) * 64 + ρ ≤ (n : Int)) ∧ 4 ≤ (n : Int)
theorem pre0 {L : List Wd} {ρ : Int} {i d e : Int} (h : Pre L 0 ρ i d e) (hρ : 0 ≤ ρ) : False := by unfold Pre at h; omega
def Pre4 (L : List Wd) (n : Nat) (i d e : Int) : Prop := 0 ≤ i ∧ i ≤ (L.length : Int) - 1 ∧ (e ≠ 0 → i = (L.length : Int) - 1) ∧ ((L.length : Int) - 1 - i) * 64 + 1 < (n : Int)
theorem pre04 {L : List Wd} {i d e : Int} : ¬ Pre4 L 0 i d e := by unfold Pre4; omega
def PG (L : List Wd) (B : Nat) (i d e : Int) (r : PR) : Prop := i ≤ r.i ∧ r.i ≤ (L.length : Int) - 1 ∧ (r.e ≠ 0 → r.i = (L.length : Int) - 1) ∧ (e ≠ 0 → r.e = e) ∧ r.d = d ∧ r.ks.len ≤ B
def PQ (L : List Wd) (B : Nat) (i d e : Int) (r : PR) : Prop := i ≤ r.i ∧ r.i ≤ (L.length : Int) - 1 ∧ (r.e ≠ 0 → r.i = (L.length : Int) - 1) ∧ (e ≠ 0 → r.e = e) ∧ r.d = d ∧ r.ks.len ≤ B ∧ (r.e ≠ 0 ∨ i < r.i)
def P22 (L : List Wd) (i d e : Int) (r : PR) : Prop := r.i = i ∧ r.e = e ∧ r.d = d ∧ r.ks.len = 0
def P37 (L : List Wd) (i d e : Int) (r : PR) : Prop := r.i = i ∧ r.e = e ∧ r.d = d ∧ (r.b = true → i < (L.length : Int) - 1)
def P44 (L : List Wd) (i d e : Int) (r : PR) : Prop := r.e = e ∧ r.d = d ∧ (i < (L.length : Int) - 1 → r.i = i + 1) ∧ (¬ i < (L.length : Int) - 1 → r.i = i)
def P40 (L : List Wd) (i d e : Int) (r : PR) : Prop := r.e ≠ 0 ∧ r.i = (L.length : Int) - 1 ∧ (e ≠ 0 → r.e = e) ∧ r.d = d
def P34 (L : List Wd) (i d e : Int) (r : PR) : Prop := r.e = e ∧ r.d = d ∧ (r.b = true → i < (L.length : Int) - 1 ∧ r.i = i + 1) ∧ (r.b = false → r.i = i)
def P58 (L : List Wd) (i d e : Int) (r : PR) : Prop := r.d = d + 1 ∧ i ≤ r.i ∧ r.i ≤ (L.length : Int) - 1 ∧ (r.e ≠ 0 → r.i = (L.length : Int) - 1) ∧ (e ≠ 0 → r.e = e) ∧ (r.e = 0 → d + 1 ≤ 60)
/-- Loops: what holds between rounds; what is there behind. -/
def ILtrue (L : List Wd) (i d e : Int) (s : SI) (len : Nat) : Prop := i ≤ s.1 ∧ s.1 ≤ (L.length : Int) - 1 ∧ (s.2.2.1 ≠ 0 → s.1 = (L.length : Int) - 1) ∧ s.2.1 = d ∧ (e ≠ 0 → s.2.2.1 = e) ∧ len ≤ L.length ∧ (s.2.2.1 = 0 → (len : Int) ≤ s.1 - i)
def ILfalse (L : List Wd) (i d e : Int) (s : SI) (len : Nat) : Prop := i ≤ s.1 ∧ s.1 ≤ (L.length : Int) - 1 ∧ (s.2.2.1 ≠ 0 → s.1 = (L.length : Int) - 1) ∧ s.2.1 = d ∧ (e ≠ 0 → s.2.2.1 = e) ∧ len ≤ L.length + 5 ∧ 0 ≤ len
def QLtrue (L : List Wd) (i d e : Int) (s : SI) (len : Nat) : Prop := i ≤ s.1 ∧ s.1 ≤ (L.length : Int) - 1 ∧ (s.2.2.1 ≠ 0 → s.1 = (L.length : Int) - 1) ∧ (e ≠ 0 → s.2.2.1 = e) ∧ s.2.1 = d ∧ len ≤ L.length + 1
def QLfalse (L : List Wd) (i d e : Int) (s : SI) (len : Nat) : Prop := i ≤ s.1 ∧ s.1 ≤ (L.length : Int) - 1 ∧ (s.2.2.1 ≠ 0 → s.1 = (L.length : Int) - 1) ∧ (e ≠ 0 → s.2.2.1 = e) ∧ s.2.1 = d ∧ len ≤ L.length + 5
def muL (L : List Wd) (s : SI) : Nat := if s.2.2.1 = 0 then ((L.length : Int) - s.1).toNat else 0
theorem ok_iter {Y S : Type} {step : Y → S → Option (Bool × Y × S)} {I : Y → S → Prop} {mu : Y → S → Nat} {Q : Y × S → Prop} (hs : ∀ y s, I y s → OKr (step y s) (fun r => bif r.1 then I r.2.1 r.2.2 ∧ mu r.2.1 r.2.2 < mu y s else Q r.2)) : ∀ (m : Nat) (y : Y) (s : S), I y s → mu y s < m → OKr (iterY step m y s) Q := by
  intro m
  induction m with
  | zero => intro y s _ h; omega
  | succ m ih =>
    intro y s hI hm
    obtain ⟨⟨b, y', s'⟩, h1, h2⟩ := hs y s hI
    unfold iterY
    rw [h1]
    cases b with
    | true =>
      obtain ⟨h3, h4⟩ := h2
      exact ih y' s' h3 (by dsimp only at h4; omega)
    | false => exact ⟨_, rfl, h2⟩
theorem T22 {L : List Wd} (hL : LOk L) {n : Nat} {p : PF} {x : ByteArray} {i d e a : Int} (h : Pre L (n + 1) 1 i d e) : OKr (F22 p L n x i d e a) (P22 L i d e) := by
  obtain ⟨p1, p2, p3, p4, p5, p6, p7⟩ := h
  unfold F22
  exact ok_has hL p1 p2 (ok_some ⟨rfl, rfl, rfl, rfl⟩)
theorem T37 {L : List Wd} (hL : LOk L) {n : Nat} {p : PF} {x : List ByteArray} {i d e a : Int} (hx : x.length ≤ 100) (h : Pre L (n + 1) 1 i d e) : OKr (F37 p L n x i d e a) (P37 L i d e) := by
  obtain ⟨p1, p2, p3, p4, p5, p6, p7⟩ := h
  unfold F37
  refine ok_has hL p1 p2 (ok_cond (fun h1 => ok_cond (fun h2 => ok_cond (fun h3 => ok_ble (by omega) (ok_cond (fun h4 => ok_some ⟨rfl, rfl, rfl, fun _ => k_lt hL (k_ne h3) p1 p2⟩) fun h4 => ok_some ⟨rfl, rfl, rfl, fun h => by cases h⟩)) fun h3 => ok_some ⟨rfl, rfl, rfl, fun h => by cases h⟩) fun h2 => ok_some ⟨rfl, rfl, rfl, fun h => by cases h⟩) fun h1 => ok_some ⟨rfl, rfl, rfl, fun h => by cases h⟩)
theorem T44 {L : List Wd} (hL : LOk L) {n : Nat} {p : PF} {i d e a : Int} (h : Pre L (n + 1) 1 i d e) : OKr (F44 p L n i d e a) (P44 L i d e) := by
  obtain ⟨p1, p2, p3, p4, p5, p6, p7⟩ := h
  have hN := hL.len
  have hP := hL.pos
  unfold F44
  refine ok_has hL p1 p2 (ok_cond (fun hc => ?_) fun hc => ?_)
  · have := of_decide_eq_true hc
    simp only [wI, i64w] at this
    refine ok_some ⟨rfl, rfl, fun h => ?_, fun h => absurd ?_ h⟩
    · show wI (i + 1) = i + 1
      simp only [wI, i64w]; omega
    · omega
  · have := of_decide_eq_false hc
    simp only [wI, i64w] at this
    exact ok_some ⟨rfl, rfl, fun h => absurd h (by omega), fun _ => rfl⟩
theorem T40 {L : List Wd} (hL : LOk L) {n : Nat} {p : PF} {x : Int} {i d e a : Int} (hx : x ≠ 0) (h : Pre4 L (n + 1) i d e) : OKr (F40 p L n x i d e a) (P40 L i d e) := by
  obtain ⟨p1, p2, p3, p4⟩ := h
  have hN := hL.len
  have hP := hL.pos
  unfold F40
  refine ok_cond (fun hc => ok_has hL p1 p2 (ok_some ⟨hx, ?_, fun h => absurd (i_eq hc) h, rfl⟩)) fun hc => ok_some ⟨i_ne hc, p3 (i_ne hc), fun _ => rfl, rfl⟩
  show wI ((L.length : Int) - 1) = _
  simp only [wI, i64w]; omega
structure HH (L : List Wd) (n : Nat) : Prop where
  c22 : ∀ {x : ByteArray} {i d e a : Int}, Pre L n 1 i d e → OKr (pn L n 22 (.s x) i d e a) (P22 L i d e)
  c37 : ∀ {x : List ByteArray} {i d e a : Int}, x.length ≤ 100 → Pre L n 1 i d e → OKr (pn L n 37 (.x x) i d e a) (P37 L i d e)
  c44 : ∀ {i d e a : Int}, Pre L n 1 i d e → OKr (pn L n 44 .u i d e a) (P44 L i d e)
  c40 : ∀ {x : Int} {i d e a : Int}, x ≠ 0 → Pre4 L n i d e → OKr (pn L n 40 (.i x) i d e a) (P40 L i d e)
  c58 : ∀ {i d e a : Int}, Pre L n 2 i d e → OKr (pn L n 58 .u i d e a) (P58 L i d e)
  c34 : ∀ {x : ByteArray} {i d e a : Int}, Pre L n 2 i d e → OKr (pn L n 34 (.s x) i d e a) (P34 L i d e)
  c35 : ∀ {i d e a : Int}, Pre L n 2 i d e → OKr (pn L n 35 .u i d e a) (PQ L (L.length + 5) i d e)
  c36 : ∀ {x : ByteArray} {i d e a : Int}, Pre L n 2 i d e → OKr (pn L n 36 (.s x) i d e a) (PQ L (L.length + 5) i d e)
  c46 : ∀ {i d e a : Int}, Pre L n 10 i d e → OKr (pn L n 46 .u i d e a) (PQ L (L.length + 5) i d e)
  c49 : ∀ {i d e a : Int}, Pre L n 11 i d e → OKr (pn L n 49 .u i d e a) (PG L (L.length + 5) i d e)
  c38 : ∀ {x : ByteArray} {i d e a : Int}, Pre L n 11 i d e → OKr (pn L n 38 (.s x) i d e a) (PQ L 1 i d e)
  c47_46 : ∀ {i d e a : Int}, Pre L n 12 i d e → OKr (pn L n 47 (.f 46) i d e a) (PG L (L.length + 1) i d e)
  c50 : ∀ {i d e a : Int}, Pre L n 13 i d e → OKr (pn L n 50 .u i d e a) (PQ L (L.length + 5) i d e)
  c39 : ∀ {i d e a : Int}, Pre L n 14 i d e → OKr (pn L n 39 .u i d e a) (PQ L 3 i d e)
  c88 : ∀ {i d e a : Int}, Pre L n 15 i d e → OKr (pn L n 88 .u i d e a) (PQ L (L.length + 5) i d e)
  c87 : ∀ {i d e a : Int}, Pre L n 16 i d e → OKr (pn L n 87 .u i d e a) (PQ L (L.length + 5) i d e)
  c86 : ∀ {i d e a : Int}, Pre L n 17 i d e → OKr (pn L n 86 .u i d e a) (PQ L (L.length + 5) i d e)
  c69_4 : ∀ {x : Int} {i d e a : Int}, Pre L n 18 i d e → OKr (pn L n 69 (.r x rG4 rC4) i d e a) (PQ L (L.length + 5) i d e)
  c83 : ∀ {i d e a : Int}, Pre L n 19 i d e → OKr (pn L n 83 .u i d e a) (PQ L (L.length + 5) i d e)
  c69_3 : ∀ {x : Int} {i d e a : Int}, Pre L n 20 i d e → OKr (pn L n 69 (.r x rG3 rC3) i d e a) (PQ L (L.length + 5) i d e)
  c77 : ∀ {i d e a : Int}, Pre L n 21 i d e → OKr (pn L n 77 .u i d e a) (PQ L (L.length + 5) i d e)
  c69_2 : ∀ {x : Int} {i d e a : Int}, Pre L n 22 i d e → OKr (pn L n 69 (.r x rG2 rC2) i d e a) (PQ L (L.length + 5) i d e)
  c72 : ∀ {i d e a : Int}, Pre L n 23 i d e → OKr (pn L n 72 .u i d e a) (PQ L (L.length + 5) i d e)
  c69_1 : ∀ {x : Int} {i d e a : Int}, Pre L n 24 i d e → OKr (pn L n 69 (.r x rG1 rC1) i d e a) (PQ L (L.length + 5) i d e)
  c70 : ∀ {i d e a : Int}, Pre L n 25 i d e → OKr (pn L n 70 .u i d e a) (PQ L (L.length + 5) i d e)
  c69_0 : ∀ {x : Int} {i d e a : Int}, Pre L n 26 i d e → OKr (pn L n 69 (.r x rG0 rC0) i d e a) (PQ L (L.length + 5) i d e)
  c64 : ∀ {i d e a : Int}, Pre L n 27 i d e → OKr (pn L n 64 .u i d e a) (PQ L (L.length + 5) i d e)
  c89 : ∀ {i d e a : Int}, Pre L n 28 i d e → OKr (pn L n 89 .u i d e a) (PQ L (L.length + 5) i d e)
  c47_89 : ∀ {i d e a : Int}, Pre L n 29 i d e → OKr (pn L n 47 (.f 89) i d e a) (PG L (L.length + 1) i d e)
  c65 : ∀ {i d e a : Int}, Pre L n 30 i d e → OKr (pn L n 65 .u i d e a) (PQ L 2 i d e)
  c67 : ∀ {i d e a : Int}, Pre L n 31 i d e → OKr (pn L n 67 .u i d e a) (PQ L (L.length + 5) i d e)
  c66 : ∀ {i d e a : Int}, Pre L n 32 i d e → OKr (pn L n 66 .u i d e a) (PQ L (L.length + 5) i d e)
  c60 : ∀ {i d e a : Int}, Pre L n 33 i d e → OKr (pn L n 60 .u i d e a) (PQ L (L.length + 5) i d e)
  c24 : ∀ {i d e a : Int}, Pre L n 34 i d e → OKr (pn L n 24 .u i d e a) (PQ L (L.length + 5) i d e)
  c13 : ∀ {i d e a : Int}, Pre L n 35 i d e → OKr (pn L n 13 .u i d e a) (PG L (L.length + 5) i d e)
theorem l13 {L : List Wd} (hL : LOk L) {n : Nat} (H : HH L n) {s t : ByteArray} {k : Int} {i d e a : Int} (h : LPre L n 35 i d e) : OKr (lp13 (pn L n) L n (s, t, k, .nil) (i, d, e, a)) (fun r => QLtrue L i d e r.2 (r.1.2.2.2.len)) := by
  obtain ⟨p1, p2, p3, p4, p5, p6, p7, p8⟩ := h
  have hN := hL.len
  refine ok_iter (I := fun y s => ILtrue L i d e s (y.2.2.2.len)) (mu := fun y s => muL L s) ?_ n _ _ ?_ ?_
  · rintro ⟨s, t, k, ks⟩ ⟨i1, d1, e1, a1⟩ hI
    simp only [ILtrue] at hI
    obtain ⟨j1, j2, j3, j4, j5, j6, j7⟩ := hI
    dsimp only
    unfold st13
    refine ok_cond (fun hc => ?_) (fun hc => ?_)
    · have q1 := i_eq hc
      refine ok_has hL (by omega) (by omega) ?_
      refine ok_cond (fun hc => ?_) (fun hc => ?_)
      · have q1 := k_lt hL (k_ne hc) (by omega) (by omega)
        refine ok_bind (H.c24 (by unfold Pre; omega)) fun r1 h1 => ?_
        obtain ⟨h1_1, h1_2, h1_3, h1_4, h1_5, h1_6, h1_7⟩ := h1
        refine ok_ble (by omega) ?_
        exact ok_some (by simp only [muL, ILtrue, i64w, NL.len, NL.snoc_len, cond_true, cond_false, if_true, if_false, ST, implies_true]; refine ⟨?_, ?_⟩ <;> (try split) <;> (try split) <;> omega)
      · skip
        exact ok_some (by simp only [QLtrue, i64w, NL.len, NL.snoc_len, cond_true, cond_false, if_true, if_false, ST, implies_true]; omega)
    · have q1 := i_ne hc
      exact ok_some (by simp only [QLtrue, i64w, NL.len, NL.snoc_len, cond_true, cond_false, if_true, if_false, ST, implies_true]; omega)
  · simp only [ILtrue, NL.len, true_and, and_true, implies_true]; omega
  · simp only [muL]; split <;> omega
theorem l24 {L : List Wd} (hL : LOk L) {n : Nat} (H : HH L n) {s t : ByteArray} {k : Int} {i d e a : Int} (h : LPre L n 12 i d e) : OKr (lp24 (pn L n) L n (s, t, k, .nil) (i, d, e, a)) (fun r => QLtrue L i d e r.2 (r.1.2.2.2.len)) := by
  obtain ⟨p1, p2, p3, p4, p5, p6, p7, p8⟩ := h
  have hN := hL.len
  refine ok_iter (I := fun y s => ILtrue L i d e s (y.2.2.2.len)) (mu := fun y s => muL L s) ?_ n _ _ ?_ ?_
  · rintro ⟨s, t, k, ks⟩ ⟨i1, d1, e1, a1⟩ hI
    simp only [ILtrue] at hI
    obtain ⟨j1, j2, j3, j4, j5, j6, j7⟩ := hI
    dsimp only
    unfold st24
    refine ok_cond (fun hc => ?_) (fun hc => ?_)
    · have q1 := i_eq hc
      refine ok_bind (H.c37 (by first | decide | simp) (by unfold Pre; omega)) fun r1 h1 => ?_
      obtain ⟨h1_1, h1_2, h1_3, h1_4⟩ := h1
      refine ok_cond (fun hc => ?_) (fun hc => ?_)
      · have q1 := h1_4 hc
        exact ok_some (by simp only [QLtrue, i64w, NL.len, NL.snoc_len, cond_true, cond_false, if_true, if_false, ST, implies_true]; omega)
      · skip
        refine ok_bind (H.c38 (by unfold Pre; omega)) fun r2 h2 => ?_
        obtain ⟨h2_1, h2_2, h2_3, h2_4, h2_5, h2_6, h2_7⟩ := h2
        refine ok_ble (by omega) ?_
        refine ok_bind (H.c36 (by unfold Pre; omega)) fun r3 h3 => ?_
        obtain ⟨h3_1, h3_2, h3_3, h3_4, h3_5, h3_6, h3_7⟩ := h3
        exact ok_some (by simp only [muL, ILtrue, i64w, NL.len, NL.snoc_len, cond_true, cond_false, if_true, if_false, ST, implies_true]; refine ⟨?_, ?_⟩ <;> (try split) <;> (try split) <;> omega)
    · have q1 := i_ne hc
      exact ok_some (by simp only [QLtrue, i64w, NL.len, NL.snoc_len, cond_true, cond_false, if_true, if_false, ST, implies_true]; omega)
  · simp only [ILtrue, NL.len, true_and, and_true, implies_true]; omega
  · simp only [muL]; split <;> omega
theorem l50 {L : List Wd} (hL : LOk L) {n : Nat} (H : HH L n) {s t : ByteArray} {k : Int} {i d e a : Int} (h : LPre L n 34 i d e) : OKr (lp50 (pn L n) L n (s, t, k, .nil) (i, d, e, a)) (fun r => QLtrue L i d e r.2 (r.1.2.2.2.len)) := by
  obtain ⟨p1, p2, p3, p4, p5, p6, p7, p8⟩ := h
  have hN := hL.len
  refine ok_iter (I := fun y s => ILtrue L i d e s (y.2.2.2.len)) (mu := fun y s => muL L s) ?_ n _ _ ?_ ?_
  · rintro ⟨s, t, k, ks⟩ ⟨i1, d1, e1, a1⟩ hI
    simp only [ILtrue] at hI
    obtain ⟨j1, j2, j3, j4, j5, j6, j7⟩ := hI
    dsimp only
    unfold st50
    refine ok_cond (fun hc => ?_) (fun hc => ?_)
    · have q1 := i_eq hc
      refine ok_bind (H.c37 (by first | decide | simp) (by unfold Pre; omega)) fun r1 h1 => ?_
      obtain ⟨h1_1, h1_2, h1_3, h1_4⟩ := h1
      refine ok_cond (fun hc => ?_) (fun hc => ?_)
      · have q1 := h1_4 hc
        exact ok_some (by simp only [QLtrue, i64w, NL.len, NL.snoc_len, cond_true, cond_false, if_true, if_false, ST, implies_true]; omega)
      · skip
        refine ok_bind (H.c60 (by unfold Pre; omega)) fun r2 h2 => ?_
        obtain ⟨h2_1, h2_2, h2_3, h2_4, h2_5, h2_6, h2_7⟩ := h2
        refine ok_ble (by omega) ?_
        exact ok_some (by simp only [muL, ILtrue, i64w, NL.len, NL.snoc_len, cond_true, cond_false, if_true, if_false, ST, implies_true]; refine ⟨?_, ?_⟩ <;> (try split) <;> (try split) <;> omega)
    · have q1 := i_ne hc
      exact ok_some (by simp only [QLtrue, i64w, NL.len, NL.snoc_len, cond_true, cond_false, if_true, if_false, ST, implies_true]; omega)
  · simp only [ILtrue, NL.len, true_and, and_true, implies_true]; omega
  · simp only [muL]; split <;> omega
theorem l60 {L : List Wd} (hL : LOk L) {n : Nat} (H : HH L n) {s t : ByteArray} {k : Int} {i d e a : Int} (h : LPre L n 33 i d e) : OKr (lp60 (pn L n) L n (s, t, k, .nil) (i, d, e, a)) (fun r => QLtrue L i d e r.2 (r.1.2.2.2.len)) := by
  obtain ⟨p1, p2, p3, p4, p5, p6, p7, p8⟩ := h
  have hN := hL.len
  refine ok_iter (I := fun y s => ILtrue L i d e s (y.2.2.2.len)) (mu := fun y s => muL L s) ?_ n _ _ ?_ ?_
  · rintro ⟨s, t, k, ks⟩ ⟨i1, d1, e1, a1⟩ hI
    simp only [ILtrue] at hI
    obtain ⟨j1, j2, j3, j4, j5, j6, j7⟩ := hI
    dsimp only
    unfold st60
    refine ok_cond (fun hc => ?_) (fun hc => ?_)
    · have q1 := i_eq hc
      refine ok_bind (H.c37 (by first | decide | simp) (by unfold Pre; omega)) fun r1 h1 => ?_
      obtain ⟨h1_1, h1_2, h1_3, h1_4⟩ := h1
      refine ok_cond (fun hc => ?_) (fun hc => ?_)
      · have q1 := h1_4 hc
        exact ok_some (by simp only [QLtrue, i64w, NL.len, NL.snoc_len, cond_true, cond_false, if_true, if_false, ST, implies_true]; omega)
      · skip
        refine ok_bind (H.c66 (by unfold Pre; omega)) fun r2 h2 => ?_
        obtain ⟨h2_1, h2_2, h2_3, h2_4, h2_5, h2_6, h2_7⟩ := h2
        refine ok_ble (by omega) ?_
        exact ok_some (by simp only [muL, ILtrue, i64w, NL.len, NL.snoc_len, cond_true, cond_false, if_true, if_false, ST, implies_true]; refine ⟨?_, ?_⟩ <;> (try split) <;> (try split) <;> omega)
    · have q1 := i_ne hc
      exact ok_some (by simp only [QLtrue, i64w, NL.len, NL.snoc_len, cond_true, cond_false, if_true, if_false, ST, implies_true]; omega)
  · simp only [ILtrue, NL.len, true_and, and_true, implies_true]; omega
  · simp only [muL]; split <;> omega
theorem l47g46 {L : List Wd} (hL : LOk L) {n : Nat} (H : HH L n) {i d e a : Int} (h : LPre L n 11 i d e) : OKr (lp47 (pn L n) L 46 n .nil (i, d, e, a)) (fun r => QLtrue L i d e r.2 (r.1.len)) := by
  obtain ⟨p1, p2, p3, p4, p5, p6, p7, p8⟩ := h
  have hN := hL.len
  refine ok_iter (I := fun y s => ILtrue L i d e s (y.len)) (mu := fun y s => muL L s) ?_ n _ _ ?_ ?_
  · rintro ks ⟨i1, d1, e1, a1⟩ hI
    simp only [ILtrue] at hI
    obtain ⟨j1, j2, j3, j4, j5, j6, j7⟩ := hI
    dsimp only
    unfold st47g46
    refine ok_cond (fun hc => ?_) (fun hc => ?_)
    · have q1 := i_eq hc
      refine ok_cond (fun hc => ?_) (fun hc => ?_)
      · skip
        refine ok_bind (H.c46 (by unfold Pre; omega)) fun r1 h1 => ?_
        obtain ⟨h1_1, h1_2, h1_3, h1_4, h1_5, h1_6, h1_7⟩ := h1
        refine ok_ble (by omega) ?_
        refine ok_bind (H.c34 (by unfold Pre; omega)) fun r2 h2 => ?_
        obtain ⟨h2_1, h2_2, h2_3, h2_4⟩ := h2
        refine ok_cond (fun hc => ?_) (fun hc => ?_)
        · have q := h2_3 hc
          obtain ⟨q1, q2⟩ := q
          exact ok_some (by simp only [muL, ILtrue, i64w, NL.len, NL.snoc_len, cond_true, cond_false, if_true, if_false, ST, implies_true]; refine ⟨?_, ?_⟩ <;> (try split) <;> (try split) <;> omega)
        · have q1 := h2_4 hc
          exact ok_some (by simp only [QLtrue, i64w, NL.len, NL.snoc_len, cond_true, cond_false, if_true, if_false, ST, implies_true]; omega)
      · skip
        refine ok_bind (H.c37 (by first | decide | simp) (by unfold Pre; omega)) fun r3 h3 => ?_
        obtain ⟨h3_1, h3_2, h3_3, h3_4⟩ := h3
        refine ok_cond (fun hc => ?_) (fun hc => ?_)
        · have q1 := h3_4 hc
          exact ok_some (by simp only [QLtrue, i64w, NL.len, NL.snoc_len, cond_true, cond_false, if_true, if_false, ST, implies_true]; omega)
        · skip
          refine ok_bind (H.c46 (by unfold Pre; omega)) fun r4 h4 => ?_
          obtain ⟨h4_1, h4_2, h4_3, h4_4, h4_5, h4_6, h4_7⟩ := h4
          refine ok_ble (by omega) ?_
          refine ok_bind (H.c34 (by unfold Pre; omega)) fun r5 h5 => ?_
          obtain ⟨h5_1, h5_2, h5_3, h5_4⟩ := h5
          refine ok_cond (fun hc => ?_) (fun hc => ?_)
          · have q := h5_3 hc
            obtain ⟨q1, q2⟩ := q
            exact ok_some (by simp only [muL, ILtrue, i64w, NL.len, NL.snoc_len, cond_true, cond_false, if_true, if_false, ST, implies_true]; refine ⟨?_, ?_⟩ <;> (try split) <;> (try split) <;> omega)
          · have q1 := h5_4 hc
            exact ok_some (by simp only [QLtrue, i64w, NL.len, NL.snoc_len, cond_true, cond_false, if_true, if_false, ST, implies_true]; omega)
    · have q1 := i_ne hc
      exact ok_some (by simp only [QLtrue, i64w, NL.len, NL.snoc_len, cond_true, cond_false, if_true, if_false, ST, implies_true]; omega)
  · simp only [ILtrue, NL.len, true_and, and_true, implies_true]; omega
  · simp only [muL]; split <;> omega
theorem l47g89 {L : List Wd} (hL : LOk L) {n : Nat} (H : HH L n) {i d e a : Int} (h : LPre L n 29 i d e) : OKr (lp47 (pn L n) L 89 n .nil (i, d, e, a)) (fun r => QLtrue L i d e r.2 (r.1.len)) := by
  obtain ⟨p1, p2, p3, p4, p5, p6, p7, p8⟩ := h
  have hN := hL.len
  refine ok_iter (I := fun y s => ILtrue L i d e s (y.len)) (mu := fun y s => muL L s) ?_ n _ _ ?_ ?_
  · rintro ks ⟨i1, d1, e1, a1⟩ hI
    simp only [ILtrue] at hI
    obtain ⟨j1, j2, j3, j4, j5, j6, j7⟩ := hI
    dsimp only
    unfold st47g89
    refine ok_cond (fun hc => ?_) (fun hc => ?_)
    · have q1 := i_eq hc
      refine ok_cond (fun hc => ?_) (fun hc => ?_)
      · skip
        refine ok_bind (H.c89 (by unfold Pre; omega)) fun r1 h1 => ?_
        obtain ⟨h1_1, h1_2, h1_3, h1_4, h1_5, h1_6, h1_7⟩ := h1
        refine ok_ble (by omega) ?_
        refine ok_bind (H.c34 (by unfold Pre; omega)) fun r2 h2 => ?_
        obtain ⟨h2_1, h2_2, h2_3, h2_4⟩ := h2
        refine ok_cond (fun hc => ?_) (fun hc => ?_)
        · have q := h2_3 hc
          obtain ⟨q1, q2⟩ := q
          exact ok_some (by simp only [muL, ILtrue, i64w, NL.len, NL.snoc_len, cond_true, cond_false, if_true, if_false, ST, implies_true]; refine ⟨?_, ?_⟩ <;> (try split) <;> (try split) <;> omega)
        · have q1 := h2_4 hc
          exact ok_some (by simp only [QLtrue, i64w, NL.len, NL.snoc_len, cond_true, cond_false, if_true, if_false, ST, implies_true]; omega)
      · skip
        refine ok_bind (H.c37 (by first | decide | simp) (by unfold Pre; omega)) fun r3 h3 => ?_
        obtain ⟨h3_1, h3_2, h3_3, h3_4⟩ := h3
        refine ok_cond (fun hc => ?_) (fun hc => ?_)
        · have q1 := h3_4 hc
          exact ok_some (by simp only [QLtrue, i64w, NL.len, NL.snoc_len, cond_true, cond_false, if_true, if_false, ST, implies_true]; omega)
        · skip
          refine ok_bind (H.c89 (by unfold Pre; omega)) fun r4 h4 => ?_
          obtain ⟨h4_1, h4_2, h4_3, h4_4, h4_5, h4_6, h4_7⟩ := h4
          refine ok_ble (by omega) ?_
          refine ok_bind (H.c34 (by unfold Pre; omega)) fun r5 h5 => ?_
          obtain ⟨h5_1, h5_2, h5_3, h5_4⟩ := h5
          refine ok_cond (fun hc => ?_) (fun hc => ?_)
          · have q := h5_3 hc
            obtain ⟨q1, q2⟩ := q
            exact ok_some (by simp only [muL, ILtrue, i64w, NL.len, NL.snoc_len, cond_true, cond_false, if_true, if_false, ST, implies_true]; refine ⟨?_, ?_⟩ <;> (try split) <;> (try split) <;> omega)
          · have q1 := h5_4 hc
            exact ok_some (by simp only [QLtrue, i64w, NL.len, NL.snoc_len, cond_true, cond_false, if_true, if_false, ST, implies_true]; omega)
    · have q1 := i_ne hc
      exact ok_some (by simp only [QLtrue, i64w, NL.len, NL.snoc_len, cond_true, cond_false, if_true, if_false, ST, implies_true]; omega)
  · simp only [ILtrue, NL.len, true_and, and_true, implies_true]; omega
  · simp only [muL]; split <;> omega
theorem l47c {L : List Wd} (hL : LOk L) {n : Nat} (H : HH L n) {s t : ByteArray} {k : Int} {i d e a : Int} (h : LPre L n 12 i d e) : OKr (lp47c (pn L n) L n (s, t, k, .nil) (i, d, e, a)) (fun r => QLtrue L i d e r.2 (r.1.2.2.2.len)) := by
  obtain ⟨p1, p2, p3, p4, p5, p6, p7, p8⟩ := h
  have hN := hL.len
  refine ok_iter (I := fun y s => ILtrue L i d e s (y.2.2.2.len)) (mu := fun y s => muL L s) ?_ n _ _ ?_ ?_
  · rintro ⟨s, t, k, ks⟩ ⟨i1, d1, e1, a1⟩ hI
    simp only [ILtrue] at hI
    obtain ⟨j1, j2, j3, j4, j5, j6, j7⟩ := hI
    dsimp only
    unfold st47c
    refine ok_cond (fun hc => ?_) (fun hc => ?_)
    · have q1 := i_eq hc
      refine ok_cond (fun hc => ?_) (fun hc => ?_)
      · skip
        refine ok_bind (H.c38 (by unfold Pre; omega)) fun r1 h1 => ?_
        obtain ⟨h1_1, h1_2, h1_3, h1_4, h1_5, h1_6, h1_7⟩ := h1
        refine ok_ble (by omega) ?_
        refine ok_bind (H.c34 (by unfold Pre; omega)) fun r2 h2 => ?_
        obtain ⟨h2_1, h2_2, h2_3, h2_4⟩ := h2
        refine ok_cond (fun hc => ?_) (fun hc => ?_)
        · have q := h2_3 hc
          obtain ⟨q1, q2⟩ := q
          exact ok_some (by simp only [muL, ILtrue, i64w, NL.len, NL.snoc_len, cond_true, cond_false, if_true, if_false, ST, implies_true]; refine ⟨?_, ?_⟩ <;> (try split) <;> (try split) <;> omega)
        · have q1 := h2_4 hc
          exact ok_some (by simp only [QLtrue, i64w, NL.len, NL.snoc_len, cond_true, cond_false, if_true, if_false, ST, implies_true]; omega)
      · skip
        refine ok_bind (H.c37 (by first | decide | simp) (by unfold Pre; omega)) fun r3 h3 => ?_
        obtain ⟨h3_1, h3_2, h3_3, h3_4⟩ := h3
        refine ok_cond (fun hc => ?_) (fun hc => ?_)
        · have q1 := h3_4 hc
          exact ok_some (by simp only [QLtrue, i64w, NL.len, NL.snoc_len, cond_true, cond_false, if_true, if_false, ST, implies_true]; omega)
        · skip
          refine ok_bind (H.c38 (by unfold Pre; omega)) fun r4 h4 => ?_
          obtain ⟨h4_1, h4_2, h4_3, h4_4, h4_5, h4_6, h4_7⟩ := h4
          refine ok_ble (by omega) ?_
          refine ok_bind (H.c34 (by unfold Pre; omega)) fun r5 h5 => ?_
          obtain ⟨h5_1, h5_2, h5_3, h5_4⟩ := h5
          refine ok_cond (fun hc => ?_) (fun hc => ?_)
          · have q := h5_3 hc
            obtain ⟨q1, q2⟩ := q
            exact ok_some (by simp only [muL, ILtrue, i64w, NL.len, NL.snoc_len, cond_true, cond_false, if_true, if_false, ST, implies_true]; refine ⟨?_, ?_⟩ <;> (try split) <;> (try split) <;> omega)
          · have q1 := h5_4 hc
            exact ok_some (by simp only [QLtrue, i64w, NL.len, NL.snoc_len, cond_true, cond_false, if_true, if_false, ST, implies_true]; omega)
    · have q1 := i_ne hc
      exact ok_some (by simp only [QLtrue, i64w, NL.len, NL.snoc_len, cond_true, cond_false, if_true, if_false, ST, implies_true]; omega)
  · simp only [ILtrue, NL.len, true_and, and_true, implies_true]; omega
  · simp only [muL]; split <;> omega
theorem lR0 {L : List Wd} (hL : LOk L) {n : Nat} (H : HH L n) {s t : ByteArray} {k : Int} {ks : NL} {x : Int} {i d e a : Int} (hk : ks.len ≤ L.length + 5) (h : LPre L n 26 i d e) : OKr (lp69 (pn L n) L 0 x n ((s, t, k, ks), 0) (i, d, e, a)) (fun r => QLfalse L i d e r.2 (r.1.1.2.2.2.len)) := by
  obtain ⟨p1, p2, p3, p4, p5, p6, p7, p8⟩ := h
  have hN := hL.len
  refine ok_iter (I := fun y s => ILfalse L i d e s (y.1.2.2.2.len)) (mu := fun y s => muL L s) ?_ n _ _ ?_ ?_
  · rintro ⟨⟨s, t, k, ks⟩, j⟩ ⟨i1, d1, e1, a1⟩ hI
    simp only [ILfalse] at hI
    obtain ⟨j1, j2, j3, j4, j5, j6, j7⟩ := hI
    dsimp only
    unfold stR0
    refine ok_bind (H.c37 (by first | decide | simp) (by unfold Pre; omega)) fun r1 h1 => ?_
    obtain ⟨h1_1, h1_2, h1_3, h1_4⟩ := h1
    refine ok_cond (fun hc => ?_) (fun hc => ?_)
    · have q1 := h1_4 hc
      refine ok_cond (fun hc => ?_) (fun hc => ?_)
      · skip
        refine ok_bind (H.c44 (by unfold Pre; omega)) fun r2 h2 => ?_
        obtain ⟨h2_1, h2_2, h2_3, h2_4⟩ := h2
        skip
        refine ok_bind (H.c70 (by unfold Pre; omega)) fun r3 h3 => ?_
        obtain ⟨h3_1, h3_2, h3_3, h3_4, h3_5, h3_6, h3_7⟩ := h3
        exact ok_some (by simp only [muL, ILfalse, i64w, NL.len, NL.snoc_len, cond_true, cond_false, if_true, if_false, ST, implies_true]; refine ⟨?_, ?_⟩ <;> (try split) <;> (try split) <;> omega)
      · skip
        exact ok_some (by simp only [QLfalse, i64w, NL.len, NL.snoc_len, cond_true, cond_false, if_true, if_false, ST, implies_true]; omega)
    · skip
      exact ok_some (by simp only [QLfalse, i64w, NL.len, NL.snoc_len, cond_true, cond_false, if_true, if_false, ST, implies_true]; omega)
  · simp only [ILfalse, NL.len, true_and, and_true, implies_true]; omega
  · simp only [muL]; split <;> omega
theorem lR1 {L : List Wd} (hL : LOk L) {n : Nat} (H : HH L n) {s t : ByteArray} {k : Int} {ks : NL} {x : Int} {i d e a : Int} (hk : ks.len ≤ L.length + 5) (h : LPre L n 24 i d e) : OKr (lp69 (pn L n) L 1 x n ((s, t, k, ks), 0) (i, d, e, a)) (fun r => QLfalse L i d e r.2 (r.1.1.2.2.2.len)) := by
  obtain ⟨p1, p2, p3, p4, p5, p6, p7, p8⟩ := h
  have hN := hL.len
  refine ok_iter (I := fun y s => ILfalse L i d e s (y.1.2.2.2.len)) (mu := fun y s => muL L s) ?_ n _ _ ?_ ?_
  · rintro ⟨⟨s, t, k, ks⟩, j⟩ ⟨i1, d1, e1, a1⟩ hI
    simp only [ILfalse] at hI
    obtain ⟨j1, j2, j3, j4, j5, j6, j7⟩ := hI
    dsimp only
    unfold stR1
    refine ok_bind (H.c37 (by first | decide | simp) (by unfold Pre; omega)) fun r1 h1 => ?_
    obtain ⟨h1_1, h1_2, h1_3, h1_4⟩ := h1
    refine ok_cond (fun hc => ?_) (fun hc => ?_)
    · have q1 := h1_4 hc
      refine ok_cond (fun hc => ?_) (fun hc => ?_)
      · skip
        refine ok_bind (H.c44 (by unfold Pre; omega)) fun r2 h2 => ?_
        obtain ⟨h2_1, h2_2, h2_3, h2_4⟩ := h2
        skip
        refine ok_bind (H.c72 (by unfold Pre; omega)) fun r3 h3 => ?_
        obtain ⟨h3_1, h3_2, h3_3, h3_4, h3_5, h3_6, h3_7⟩ := h3
        exact ok_some (by simp only [muL, ILfalse, i64w, NL.len, NL.snoc_len, cond_true, cond_false, if_true, if_false, ST, implies_true]; refine ⟨?_, ?_⟩ <;> (try split) <;> (try split) <;> omega)
      · skip
        exact ok_some (by simp only [QLfalse, i64w, NL.len, NL.snoc_len, cond_true, cond_false, if_true, if_false, ST, implies_true]; omega)
    · skip
      exact ok_some (by simp only [QLfalse, i64w, NL.len, NL.snoc_len, cond_true, cond_false, if_true, if_false, ST, implies_true]; omega)
  · simp only [ILfalse, NL.len, true_and, and_true, implies_true]; omega
  · simp only [muL]; split <;> omega
theorem lR2 {L : List Wd} (hL : LOk L) {n : Nat} (H : HH L n) {s t : ByteArray} {k : Int} {ks : NL} {x : Int} {i d e a : Int} (hk : ks.len ≤ L.length + 5) (h : LPre L n 22 i d e) : OKr (lp69 (pn L n) L 2 x n ((s, t, k, ks), 0) (i, d, e, a)) (fun r => QLfalse L i d e r.2 (r.1.1.2.2.2.len)) := by
  obtain ⟨p1, p2, p3, p4, p5, p6, p7, p8⟩ := h
  have hN := hL.len
  refine ok_iter (I := fun y s => ILfalse L i d e s (y.1.2.2.2.len)) (mu := fun y s => muL L s) ?_ n _ _ ?_ ?_
  · rintro ⟨⟨s, t, k, ks⟩, j⟩ ⟨i1, d1, e1, a1⟩ hI
    simp only [ILfalse] at hI
    obtain ⟨j1, j2, j3, j4, j5, j6, j7⟩ := hI
    dsimp only
    unfold stR2
    refine ok_bind (H.c37 (by first | decide | simp) (by unfold Pre; omega)) fun r1 h1 => ?_
    obtain ⟨h1_1, h1_2, h1_3, h1_4⟩ := h1
    refine ok_cond (fun hc => ?_) (fun hc => ?_)
    · have q1 := h1_4 hc
      refine ok_cond (fun hc => ?_) (fun hc => ?_)
      · skip
        refine ok_bind (H.c44 (by unfold Pre; omega)) fun r2 h2 => ?_
        obtain ⟨h2_1, h2_2, h2_3, h2_4⟩ := h2
        skip
        refine ok_bind (H.c77 (by unfold Pre; omega)) fun r3 h3 => ?_
        obtain ⟨h3_1, h3_2, h3_3, h3_4, h3_5, h3_6, h3_7⟩ := h3
        exact ok_some (by simp only [muL, ILfalse, i64w, NL.len, NL.snoc_len, cond_true, cond_false, if_true, if_false, ST, implies_true]; refine ⟨?_, ?_⟩ <;> (try split) <;> (try split) <;> omega)
      · skip
        exact ok_some (by simp only [QLfalse, i64w, NL.len, NL.snoc_len, cond_true, cond_false, if_true, if_false, ST, implies_true]; omega)
    · skip
      exact ok_some (by simp only [QLfalse, i64w, NL.len, NL.snoc_len, cond_true, cond_false, if_true, if_false, ST, implies_true]; omega)
  · simp only [ILfalse, NL.len, true_and, and_true, implies_true]; omega
  · simp only [muL]; split <;> omega
theorem lR3 {L : List Wd} (hL : LOk L) {n : Nat} (H : HH L n) {s t : ByteArray} {k : Int} {ks : NL} {x : Int} {i d e a : Int} (hk : ks.len ≤ L.length + 5) (h : LPre L n 20 i d e) : OKr (lp69 (pn L n) L 3 x n ((s, t, k, ks), 0) (i, d, e, a)) (fun r => QLfalse L i d e r.2 (r.1.1.2.2.2.len)) := by
  obtain ⟨p1, p2, p3, p4, p5, p6, p7, p8⟩ := h
  have hN := hL.len
  refine ok_iter (I := fun y s => ILfalse L i d e s (y.1.2.2.2.len)) (mu := fun y s => muL L s) ?_ n _ _ ?_ ?_
  · rintro ⟨⟨s, t, k, ks⟩, j⟩ ⟨i1, d1, e1, a1⟩ hI
    simp only [ILfalse] at hI
    obtain ⟨j1, j2, j3, j4, j5, j6, j7⟩ := hI
    dsimp only
    unfold stR3
    refine ok_bind (H.c37 (by first | decide | simp) (by unfold Pre; omega)) fun r1 h1 => ?_
    obtain ⟨h1_1, h1_2, h1_3, h1_4⟩ := h1
    refine ok_cond (fun hc => ?_) (fun hc => ?_)
    · have q1 := h1_4 hc
      refine ok_cond (fun hc => ?_) (fun hc => ?_)
      · skip
        refine ok_bind (H.c44 (by unfold Pre; omega)) fun r2 h2 => ?_
        obtain ⟨h2_1, h2_2, h2_3, h2_4⟩ := h2
        skip
        refine ok_bind (H.c83 (by unfold Pre; omega)) fun r3 h3 => ?_
        obtain ⟨h3_1, h3_2, h3_3, h3_4, h3_5, h3_6, h3_7⟩ := h3
        exact ok_some (by simp only [muL, ILfalse, i64w, NL.len, NL.snoc_len, cond_true, cond_false, if_true, if_false, ST, implies_true]; refine ⟨?_, ?_⟩ <;> (try split) <;> (try split) <;> omega)
      · skip
        exact ok_some (by simp only [QLfalse, i64w, NL.len, NL.snoc_len, cond_true, cond_false, if_true, if_false, ST, implies_true]; omega)
    · skip
      exact ok_some (by simp only [QLfalse, i64w, NL.len, NL.snoc_len, cond_true, cond_false, if_true, if_false, ST, implies_true]; omega)
  · simp only [ILfalse, NL.len, true_and, and_true, implies_true]; omega
  · simp only [muL]; split <;> omega
theorem lR4 {L : List Wd} (hL : LOk L) {n : Nat} (H : HH L n) {s t : ByteArray} {k : Int} {ks : NL} {x : Int} {i d e a : Int} (hk : ks.len ≤ L.length + 5) (h : LPre L n 18 i d e) : OKr (lp69 (pn L n) L 4 x n ((s, t, k, ks), 0) (i, d, e, a)) (fun r => QLfalse L i d e r.2 (r.1.1.2.2.2.len)) := by
  obtain ⟨p1, p2, p3, p4, p5, p6, p7, p8⟩ := h
  have hN := hL.len
  refine ok_iter (I := fun y s => ILfalse L i d e s (y.1.2.2.2.len)) (mu := fun y s => muL L s) ?_ n _ _ ?_ ?_
  · rintro ⟨⟨s, t, k, ks⟩, j⟩ ⟨i1, d1, e1, a1⟩ hI
    simp only [ILfalse] at hI
    obtain ⟨j1, j2, j3, j4, j5, j6, j7⟩ := hI
    dsimp only
    unfold stR4
    refine ok_bind (H.c37 (by first | decide | simp) (by unfold Pre; omega)) fun r1 h1 => ?_
    obtain ⟨h1_1, h1_2, h1_3, h1_4⟩ := h1
    refine ok_cond (fun hc => ?_) (fun hc => ?_)
    · have q1 := h1_4 hc
      refine ok_cond (fun hc => ?_) (fun hc => ?_)
      · skip
        refine ok_bind (H.c44 (by unfold Pre; omega)) fun r2 h2 => ?_
        obtain ⟨h2_1, h2_2, h2_3, h2_4⟩ := h2
        skip
        refine ok_bind (H.c86 (by unfold Pre; omega)) fun r3 h3 => ?_
        obtain ⟨h3_1, h3_2, h3_3, h3_4, h3_5, h3_6, h3_7⟩ := h3
        exact ok_some (by simp only [muL, ILfalse, i64w, NL.len, NL.snoc_len, cond_true, cond_false, if_true, if_false, ST, implies_true]; refine ⟨?_, ?_⟩ <;> (try split) <;> (try split) <;> omega)
      · skip
        exact ok_some (by simp only [QLfalse, i64w, NL.len, NL.snoc_len, cond_true, cond_false, if_true, if_false, ST, implies_true]; omega)
    · skip
      exact ok_some (by simp only [QLfalse, i64w, NL.len, NL.snoc_len, cond_true, cond_false, if_true, if_false, ST, implies_true]; omega)
  · simp only [ILfalse, NL.len, true_and, and_true, implies_true]; omega
  · simp only [muL]; split <;> omega
theorem lP87 {L : List Wd} (hL : LOk L) {n : Nat} (H : HH L n) {s t : ByteArray} {k : Int} {ks : NL} {i d e a : Int} (hk : ks.len ≤ L.length + 5) (h : LPre L n 16 i d e) : OKr (lp87 (pn L n) L n (s, t, k, ks) (i, d, e, a)) (fun r => QLfalse L i d e r.2 (r.1.2.2.2.len)) := by
  obtain ⟨p1, p2, p3, p4, p5, p6, p7, p8⟩ := h
  have hN := hL.len
  refine ok_iter (I := fun y s => ILfalse L i d e s (y.2.2.2.len)) (mu := fun y s => muL L s) ?_ n _ _ ?_ ?_
  · rintro ⟨s, t, k, ks⟩ ⟨i1, d1, e1, a1⟩ hI
    simp only [ILfalse] at hI
    obtain ⟨j1, j2, j3, j4, j5, j6, j7⟩ := hI
    dsimp only
    unfold stP87
    refine ok_has hL (by omega) (by omega) ?_
    refine ok_bind (H.c34 (by unfold Pre; omega)) fun r1 h1 => ?_
    obtain ⟨h1_1, h1_2, h1_3, h1_4⟩ := h1
    refine ok_cond (fun hc => ?_) (fun hc => ?_)
    · have q := h1_3 hc
      obtain ⟨q1, q2⟩ := q
      refine ok_bind (H.c47_89 (by unfold Pre; omega)) fun r2 h2 => ?_
      obtain ⟨h2_1, h2_2, h2_3, h2_4, h2_5, h2_6⟩ := h2
      refine ok_cond (fun hc => ?_) (fun hc => ?_)
      · skip
        exact ok_some (by simp only [muL, ILfalse, i64w, NL.len, NL.snoc_len, cond_true, cond_false, if_true, if_false, ST, implies_true]; refine ⟨?_, ?_⟩ <;> (try split) <;> (try split) <;> omega)
      · skip
        refine ok_ble (by omega) ?_
        exact ok_some (by simp only [muL, ILfalse, i64w, NL.len, NL.snoc_len, cond_true, cond_false, if_true, if_false, ST, implies_true]; refine ⟨?_, ?_⟩ <;> (try split) <;> (try split) <;> omega)
    · have q1 := h1_4 hc
      refine ok_bind (H.c34 (by unfold Pre; omega)) fun r3 h3 => ?_
      obtain ⟨h3_1, h3_2, h3_3, h3_4⟩ := h3
      refine ok_cond (fun hc => ?_) (fun hc => ?_)
      · have q := h3_3 hc
        obtain ⟨q1, q2⟩ := q
        refine ok_bind (H.c89 (by unfold Pre; omega)) fun r4 h4 => ?_
        obtain ⟨h4_1, h4_2, h4_3, h4_4, h4_5, h4_6, h4_7⟩ := h4
        refine ok_bind (H.c36 (by unfold Pre; omega)) fun r5 h5 => ?_
        obtain ⟨h5_1, h5_2, h5_3, h5_4, h5_5, h5_6, h5_7⟩ := h5
        exact ok_some (by simp only [muL, ILfalse, i64w, NL.len, NL.snoc_len, cond_true, cond_false, if_true, if_false, ST, implies_true]; refine ⟨?_, ?_⟩ <;> (try split) <;> (try split) <;> omega)
      · have q1 := h3_4 hc
        refine ok_bind (H.c34 (by unfold Pre; omega)) fun r6 h6 => ?_
        obtain ⟨h6_1, h6_2, h6_3, h6_4⟩ := h6
        refine ok_cond (fun hc => ?_) (fun hc => ?_)
        · have q := h6_3 hc
          obtain ⟨q1, q2⟩ := q
          refine ok_bind (H.c35 (by unfold Pre; omega)) fun r7 h7 => ?_
          obtain ⟨h7_1, h7_2, h7_3, h7_4, h7_5, h7_6, h7_7⟩ := h7
          exact ok_some (by simp only [muL, ILfalse, i64w, NL.len, NL.snoc_len, cond_true, cond_false, if_true, if_false, ST, implies_true]; refine ⟨?_, ?_⟩ <;> (try split) <;> (try split) <;> omega)
        · have q1 := h6_4 hc
          exact ok_some (by simp only [QLfalse, i64w, NL.len, NL.snoc_len, cond_true, cond_false, if_true, if_false, ST, implies_true]; omega)
  · simp only [ILfalse, NL.len, true_and, and_true, implies_true]; omega
  · simp only [muL]; split <;> omega
theorem T34 {L : List Wd} (hL : LOk L) {n : Nat} (H : HH L n) {x : ByteArray} {i d e a : Int} (h : Pre L (n + 1) 2 i d e) : OKr (F34 (pn L n) L n x i d e a) (P34 L i d e) := by
  obtain ⟨p1, p2, p3, p4, p5, p6, p7⟩ := h
  have hN := hL.len
  unfold F34
  refine ok_bind (H.c37 (by first | decide | simp) (by unfold Pre; omega)) fun r1 h1 => ?_
  obtain ⟨h1_1, h1_2, h1_3, h1_4⟩ := h1
  refine ok_cond (fun hc => ?_) (fun hc => ?_)
  · have q1 := h1_4 hc
    refine ok_bind (H.c44 (by unfold Pre; omega)) fun r2 h2 => ?_
    obtain ⟨h2_1, h2_2, h2_3, h2_4⟩ := h2
    skip
    exact ok_some (by unfold P34; dsimp only; (try simp only [wI, i64w, NL.len, NL.snoc_len, ST, implies_true]) <;> omega)
  · skip
    exact ok_some (by unfold P34; dsimp only; (try simp only [wI, i64w, NL.len, NL.snoc_len, ST, implies_true]) <;> omega)
theorem T35 {L : List Wd} (hL : LOk L) {n : Nat} (H : HH L n) {i d e a : Int} (h : Pre L (n + 1) 2 i d e) : OKr (F35 (pn L n) L n i d e a) (PQ L (L.length + 5) i d e) := by
  obtain ⟨p1, p2, p3, p4, p5, p6, p7⟩ := h
  have hN := hL.len
  unfold F35
  refine ok_has hL (by omega) (by omega) ?_
  refine ok_cond (fun hc => ?_) (fun hc => ?_)
  · skip
    refine ok_bind (H.c40 (by decide) (by unfold Pre4; omega)) fun r1 h1 => ?_
    obtain ⟨h1_1, h1_2, h1_3, h1_4⟩ := h1
    exact ok_some (by unfold PQ; dsimp only; (try simp only [wI, i64w, NL.len, NL.snoc_len, ST, implies_true]) <;> omega)
  · have q1 := k_lt hL (k_nn hc (by decide)) (by omega) (by omega)
    refine ok_bind (H.c44 (by unfold Pre; omega)) fun r2 h2 => ?_
    obtain ⟨h2_1, h2_2, h2_3, h2_4⟩ := h2
    skip
    exact ok_some (by unfold PQ; dsimp only; (try simp only [wI, i64w, NL.len, NL.snoc_len, ST, implies_true]) <;> omega)
theorem T36 {L : List Wd} (hL : LOk L) {n : Nat} (H : HH L n) {x : ByteArray} {i d e a : Int} (h : Pre L (n + 1) 2 i d e) : OKr (F36 (pn L n) L n x i d e a) (PQ L (L.length + 5) i d e) := by
  obtain ⟨p1, p2, p3, p4, p5, p6, p7⟩ := h
  have hN := hL.len
  unfold F36
  refine ok_bind (H.c37 (by first | decide | simp) (by unfold Pre; omega)) fun r1 h1 => ?_
  obtain ⟨h1_1, h1_2, h1_3, h1_4⟩ := h1
  refine ok_cond (fun hc => ?_) (fun hc => ?_)
  · have q1 := h1_4 hc
    refine ok_bind (H.c44 (by unfold Pre; omega)) fun r2 h2 => ?_
    obtain ⟨h2_1, h2_2, h2_3, h2_4⟩ := h2
    skip
    exact ok_some (by unfold PQ; dsimp only; (try simp only [wI, i64w, NL.len, NL.snoc_len, ST, implies_true]) <;> omega)
  · skip
    refine ok_bind (H.c40 (by decide) (by unfold Pre4; omega)) fun r3 h3 => ?_
    obtain ⟨h3_1, h3_2, h3_3, h3_4⟩ := h3
    exact ok_some (by unfold PQ; dsimp only; (try simp only [wI, i64w, NL.len, NL.snoc_len, ST, implies_true]) <;> omega)
theorem T46 {L : List Wd} (hL : LOk L) {n : Nat} (H : HH L n) {i d e a : Int} (h : Pre L (n + 1) 10 i d e) : OKr (F46 (pn L n) L n i d e a) (PQ L (L.length + 5) i d e) := by
  obtain ⟨p1, p2, p3, p4, p5, p6, p7⟩ := h
  have hN := hL.len
  unfold F46
  refine ok_bind (H.c58 (by unfold Pre; omega)) fun r1 h1 => ?_
  obtain ⟨h1_1, h1_2, h1_3, h1_4, h1_5, h1_6⟩ := h1
  refine ok_bind (H.c22 (by unfold Pre; omega)) fun r2 h2 => ?_
  obtain ⟨h2_1, h2_2, h2_3, h2_4⟩ := h2
  refine ok_has hL (by omega) (by omega) ?_
  refine ok_cond (fun hc => ?_) (fun hc => ?_)
  · have q1 := k_lt hL (k_eq hc (by decide)) (by omega) (by omega)
    refine ok_bind (H.c44 (by unfold Pre; omega)) fun r3 h3 => ?_
    obtain ⟨h3_1, h3_2, h3_3, h3_4⟩ := h3
    skip
    exact ok_some (by unfold PQ; dsimp only; (try simp only [wI, i64w, NL.len, NL.snoc_len, ST, implies_true]) <;> omega)
  · skip
    refine ok_bind (H.c37 (by first | decide | simp) (by unfold Pre; omega)) fun r4 h4 => ?_
    obtain ⟨h4_1, h4_2, h4_3, h4_4⟩ := h4
    refine ok_cond (fun hc => ?_) (fun hc => ?_)
    · have q1 := h4_4 hc
      refine ok_bind (H.c44 (by unfold Pre; omega)) fun r5 h5 => ?_
      obtain ⟨h5_1, h5_2, h5_3, h5_4⟩ := h5
      skip
      exact ok_some (by unfold PQ; dsimp only; (try simp only [wI, i64w, NL.len, NL.snoc_len, ST, implies_true]) <;> omega)
    · skip
      refine ok_bind (H.c34 (by unfold Pre; omega)) fun r6 h6 => ?_
      obtain ⟨h6_1, h6_2, h6_3, h6_4⟩ := h6
      refine ok_cond (fun hc => ?_) (fun hc => ?_)
      · have q := h6_3 hc
        obtain ⟨q1, q2⟩ := q
        refine ok_bind (H.c36 (by unfold Pre; omega)) fun r7 h7 => ?_
        obtain ⟨h7_1, h7_2, h7_3, h7_4, h7_5, h7_6, h7_7⟩ := h7
        refine ok_bind (H.c46 (by unfold Pre; omega)) fun r8 h8 => ?_
        obtain ⟨h8_1, h8_2, h8_3, h8_4, h8_5, h8_6, h8_7⟩ := h8
        exact ok_some (by unfold PQ; dsimp only; (try simp only [wI, i64w, NL.len, NL.snoc_len, ST, implies_true]) <;> omega)
      · have q1 := h6_4 hc
        refine ok_bind (H.c34 (by unfold Pre; omega)) fun r9 h9 => ?_
        obtain ⟨h9_1, h9_2, h9_3, h9_4⟩ := h9
        refine ok_cond (fun hc => ?_) (fun hc => ?_)
        · have q := h9_3 hc
          obtain ⟨q1, q2⟩ := q
          refine ok_bind (H.c46 (by unfold Pre; omega)) fun r10 h10 => ?_
          obtain ⟨h10_1, h10_2, h10_3, h10_4, h10_5, h10_6, h10_7⟩ := h10
          exact ok_some (by unfold PQ; dsimp only; (try simp only [wI, i64w, NL.len, NL.snoc_len, ST, implies_true]) <;> omega)
        · have q1 := h9_4 hc
          refine ok_bind (H.c34 (by unfold Pre; omega)) fun r11 h11 => ?_
          obtain ⟨h11_1, h11_2, h11_3, h11_4⟩ := h11
          refine ok_cond (fun hc => ?_) (fun hc => ?_)
          · have q := h11_3 hc
            obtain ⟨q1, q2⟩ := q
            refine ok_bind (H.c36 (by unfold Pre; omega)) fun r12 h12 => ?_
            obtain ⟨h12_1, h12_2, h12_3, h12_4, h12_5, h12_6, h12_7⟩ := h12
            refine ok_bind (H.c47_46 (by unfold Pre; omega)) fun r13 h13 => ?_
            obtain ⟨h13_1, h13_2, h13_3, h13_4, h13_5, h13_6⟩ := h13
            refine ok_bind (H.c49 (by unfold Pre; omega)) fun r14 h14 => ?_
            obtain ⟨h14_1, h14_2, h14_3, h14_4, h14_5, h14_6⟩ := h14
            refine ok_cond (fun hc => ?_) (fun hc => ?_)
            · skip
              exact ok_some (by unfold PQ; dsimp only; (try simp only [wI, i64w, NL.len, NL.snoc_len, ST, implies_true]) <;> omega)
            · skip
              refine ok_ble (by omega) ?_
              exact ok_some (by unfold PQ; dsimp only; (try simp only [wI, i64w, NL.len, NL.snoc_len, ST, implies_true]) <;> omega)
          · have q1 := h11_4 hc
            refine ok_bind (H.c40 (by decide) (by unfold Pre4; omega)) fun r15 h15 => ?_
            obtain ⟨h15_1, h15_2, h15_3, h15_4⟩ := h15
            exact ok_some (by unfold PQ; dsimp only; (try simp only [wI, i64w, NL.len, NL.snoc_len, ST, implies_true]) <;> omega)
theorem T49 {L : List Wd} (hL : LOk L) {n : Nat} (H : HH L n) {i d e a : Int} (h : Pre L (n + 1) 11 i d e) : OKr (F49 (pn L n) L n i d e a) (PG L (L.length + 5) i d e) := by
  obtain ⟨p1, p2, p3, p4, p5, p6, p7⟩ := h
  have hN := hL.len
  unfold F49
  refine ok_has hL (by omega) (by omega) ?_
  refine ok_cond (fun hc => ?_) (fun hc => ?_)
  · have q1 := k_lt hL (k_eq hc (by decide)) (by omega) (by omega)
    refine ok_bind (H.c46 (by unfold Pre; omega)) fun r1 h1 => ?_
    obtain ⟨h1_1, h1_2, h1_3, h1_4, h1_5, h1_6, h1_7⟩ := h1
    exact ok_some (by unfold PG; dsimp only; (try simp only [wI, i64w, NL.len, NL.snoc_len, ST, implies_true]) <;> omega)
  · skip
    refine ok_bind (H.c37 (by first | decide | simp) (by unfold Pre; omega)) fun r2 h2 => ?_
    obtain ⟨h2_1, h2_2, h2_3, h2_4⟩ := h2
    refine ok_cond (fun hc => ?_) (fun hc => ?_)
    · have q1 := h2_4 hc
      refine ok_bind (H.c46 (by unfold Pre; omega)) fun r3 h3 => ?_
      obtain ⟨h3_1, h3_2, h3_3, h3_4, h3_5, h3_6, h3_7⟩ := h3
      exact ok_some (by unfold PG; dsimp only; (try simp only [wI, i64w, NL.len, NL.snoc_len, ST, implies_true]) <;> omega)
    · skip
      refine ok_bind (H.c22 (by unfold Pre; omega)) fun r4 h4 => ?_
      obtain ⟨h4_1, h4_2, h4_3, h4_4⟩ := h4
      exact ok_some (by unfold PG; dsimp only; (try simp only [wI, i64w, NL.len, NL.snoc_len, ST, implies_true]) <;> omega)
theorem T38 {L : List Wd} (hL : LOk L) {n : Nat} (H : HH L n) {x : ByteArray} {i d e a : Int} (h : Pre L (n + 1) 11 i d e) : OKr (F38 (pn L n) L n x i d e a) (PQ L 1 i d e) := by
  obtain ⟨p1, p2, p3, p4, p5, p6, p7⟩ := h
  have hN := hL.len
  unfold F38
  refine ok_bind (H.c22 (by unfold Pre; omega)) fun r1 h1 => ?_
  obtain ⟨h1_1, h1_2, h1_3, h1_4⟩ := h1
  refine ok_bind (H.c35 (by unfold Pre; omega)) fun r2 h2 => ?_
  obtain ⟨h2_1, h2_2, h2_3, h2_4, h2_5, h2_6, h2_7⟩ := h2
  refine ok_bind (H.c46 (by unfold Pre; omega)) fun r3 h3 => ?_
  obtain ⟨h3_1, h3_2, h3_3, h3_4, h3_5, h3_6, h3_7⟩ := h3
  exact ok_some (by unfold PQ; dsimp only; (try simp only [wI, i64w, NL.len, NL.snoc_len, ST, implies_true]) <;> omega)
theorem T47_46 {L : List Wd} (hL : LOk L) {n : Nat} (H : HH L n) {i d e a : Int} (h : Pre L (n + 1) 12 i d e) : OKr (F47_46 (pn L n) L n i d e a) (PG L (L.length + 1) i d e) := by
  obtain ⟨p1, p2, p3, p4, p5, p6, p7⟩ := h
  have hN := hL.len
  unfold F47_46
  refine ok_bind (l47g46 hL H (by unfold LPre; omega)) fun r1 h1 => ?_
  obtain ⟨h1_1, h1_2, h1_3, h1_4, h1_5, h1_6⟩ := h1
  refine ok_bind (H.c36 (by unfold Pre; omega)) fun r2 h2 => ?_
  obtain ⟨h2_1, h2_2, h2_3, h2_4, h2_5, h2_6, h2_7⟩ := h2
  exact ok_some (by unfold PG; dsimp only; (try simp only [wI, i64w, NL.len, NL.snoc_len, ST, implies_true]) <;> omega)
theorem T50 {L : List Wd} (hL : LOk L) {n : Nat} (H : HH L n) {i d e a : Int} (h : Pre L (n + 1) 13 i d e) : OKr (F50 (pn L n) L n i d e a) (PQ L (L.length + 5) i d e) := by
  obtain ⟨p1, p2, p3, p4, p5, p6, p7⟩ := h
  have hN := hL.len
  unfold F50
  refine ok_bind (H.c58 (by unfold Pre; omega)) fun r1 h1 => ?_
  obtain ⟨h1_1, h1_2, h1_3, h1_4, h1_5, h1_6⟩ := h1
  refine ok_bind (H.c22 (by unfold Pre; omega)) fun r2 h2 => ?_
  obtain ⟨h2_1, h2_2, h2_3, h2_4⟩ := h2
  refine ok_bind (H.c36 (by unfold Pre; omega)) fun r3 h3 => ?_
  obtain ⟨h3_1, h3_2, h3_3, h3_4, h3_5, h3_6, h3_7⟩ := h3
  refine ok_bind (l50 hL H (by unfold LPre; omega)) fun r4 h4 => ?_
  obtain ⟨h4_1, h4_2, h4_3, h4_4, h4_5, h4_6⟩ := h4
  refine ok_bind (H.c36 (by unfold Pre; omega)) fun r5 h5 => ?_
  obtain ⟨h5_1, h5_2, h5_3, h5_4, h5_5, h5_6, h5_7⟩ := h5
  exact ok_some (by unfold PQ; dsimp only; (try simp only [wI, i64w, NL.len, NL.snoc_len, ST, implies_true]) <;> omega)
theorem T39 {L : List Wd} (hL : LOk L) {n : Nat} (H : HH L n) {i d e a : Int} (h : Pre L (n + 1) 14 i d e) : OKr (F39 (pn L n) L n i d e a) (PQ L 3 i d e) := by
  obtain ⟨p1, p2, p3, p4, p5, p6, p7⟩ := h
  have hN := hL.len
  unfold F39
  refine ok_bind (H.c36 (by unfold Pre; omega)) fun r1 h1 => ?_
  obtain ⟨h1_1, h1_2, h1_3, h1_4, h1_5, h1_6, h1_7⟩ := h1
  refine ok_bind (H.c22 (by unfold Pre; omega)) fun r2 h2 => ?_
  obtain ⟨h2_1, h2_2, h2_3, h2_4⟩ := h2
  refine ok_bind (l47c hL H (by unfold LPre; omega)) fun r3 h3 => ?_
  obtain ⟨h3_1, h3_2, h3_3, h3_4, h3_5, h3_6⟩ := h3
  refine ok_bind (H.c36 (by unfold Pre; omega)) fun r4 h4 => ?_
  obtain ⟨h4_1, h4_2, h4_3, h4_4, h4_5, h4_6, h4_7⟩ := h4
  refine ok_bind (H.c49 (by unfold Pre; omega)) fun r5 h5 => ?_
  obtain ⟨h5_1, h5_2, h5_3, h5_4, h5_5, h5_6⟩ := h5
  refine ok_bind (H.c50 (by unfold Pre; omega)) fun r6 h6 => ?_
  obtain ⟨h6_1, h6_2, h6_3, h6_4, h6_5, h6_6, h6_7⟩ := h6
  exact ok_some (by unfold PQ; dsimp only; (try simp only [wI, i64w, NL.len, NL.snoc_len, ST, implies_true]) <;> omega)
set_option maxHeartbeats 4000000 in
theorem T88 {L : List Wd} (hL : LOk L) {n : Nat} (H : HH L n) {i d e a : Int} (h : Pre L (n + 1) 15 i d e) : OKr (F88 (pn L n) L n i d e a) (PQ L (L.length + 5) i d e) := by
  obtain ⟨p1, p2, p3, p4, p5, p6, p7⟩ := h
  have hN := hL.len
  unfold F88
  refine ok_has hL (by omega) (by omega) ?_
  refine ok_bind (H.c22 (by unfold Pre; omega)) fun r1 h1 => ?_
  obtain ⟨h1_1, h1_2, h1_3, h1_4⟩ := h1
  refine ok_cond (fun hc => ?_) (fun hc => ?_)
  · have q1 := k_lt hL (k_eq hc (by decide)) (by omega) (by omega)
    refine ok_bind (H.c44 (by unfold Pre; omega)) fun r2 h2 => ?_
    obtain ⟨h2_1, h2_2, h2_3, h2_4⟩ := h2
    skip
    exact ok_some (by unfold PQ; dsimp only; (try simp only [wI, i64w, NL.len, NL.snoc_len, ST, implies_true]) <;> omega)
  · skip
    refine ok_cond (fun hc => ?_) (fun hc => ?_)
    · have q1 := k_lt hL (k_eq hc (by decide)) (by omega) (by omega)
      refine ok_bind (H.c44 (by unfold Pre; omega)) fun r3 h3 => ?_
      obtain ⟨h3_1, h3_2, h3_3, h3_4⟩ := h3
      skip
      exact ok_some (by unfold PQ; dsimp only; (try simp only [wI, i64w, NL.len, NL.snoc_len, ST, implies_true]) <;> omega)
    · skip
      refine ok_bind (H.c34 (by unfold Pre; omega)) fun r4 h4 => ?_
      obtain ⟨h4_1, h4_2, h4_3, h4_4⟩ := h4
      refine ok_cond (fun hc => ?_) (fun hc => ?_)
      · have q := h4_3 hc
        obtain ⟨q1, q2⟩ := q
        exact ok_some (by unfold PQ; dsimp only; (try simp only [wI, i64w, NL.len, NL.snoc_len, ST, implies_true]) <;> omega)
      · have q1 := h4_4 hc
        refine ok_bind (H.c34 (by unfold Pre; omega)) fun r5 h5 => ?_
        obtain ⟨h5_1, h5_2, h5_3, h5_4⟩ := h5
        refine ok_cond (fun hc => ?_) (fun hc => ?_)
        · have q := h5_3 hc
          obtain ⟨q1, q2⟩ := q
          exact ok_some (by unfold PQ; dsimp only; (try simp only [wI, i64w, NL.len, NL.snoc_len, ST, implies_true]) <;> omega)
        · have q1 := h5_4 hc
          refine ok_bind (H.c34 (by unfold Pre; omega)) fun r6 h6 => ?_
          obtain ⟨h6_1, h6_2, h6_3, h6_4⟩ := h6
          refine ok_cond (fun hc => ?_) (fun hc => ?_)
          · have q := h6_3 hc
            obtain ⟨q1, q2⟩ := q
            refine ok_bind (H.c36 (by unfold Pre; omega)) fun r7 h7 => ?_
            obtain ⟨h7_1, h7_2, h7_3, h7_4, h7_5, h7_6, h7_7⟩ := h7
            refine ok_bind (H.c46 (by unfold Pre; omega)) fun r8 h8 => ?_
            obtain ⟨h8_1, h8_2, h8_3, h8_4, h8_5, h8_6, h8_7⟩ := h8
            refine ok_bind (H.c36 (by unfold Pre; omega)) fun r9 h9 => ?_
            obtain ⟨h9_1, h9_2, h9_3, h9_4, h9_5, h9_6, h9_7⟩ := h9
            exact ok_some (by unfold PQ; dsimp only; (try simp only [wI, i64w, NL.len, NL.snoc_len, ST, implies_true]) <;> omega)
          · have q1 := h6_4 hc
            refine ok_bind (H.c34 (by unfold Pre; omega)) fun r10 h10 => ?_
            obtain ⟨h10_1, h10_2, h10_3, h10_4⟩ := h10
            refine ok_cond (fun hc => ?_) (fun hc => ?_)
            · have q := h10_3 hc
              obtain ⟨q1, q2⟩ := q
              refine ok_bind (H.c35 (by unfold Pre; omega)) fun r11 h11 => ?_
              obtain ⟨h11_1, h11_2, h11_3, h11_4, h11_5, h11_6, h11_7⟩ := h11
              exact ok_some (by unfold PQ; dsimp only; (try simp only [wI, i64w, NL.len, NL.snoc_len, ST, implies_true]) <;> omega)
            · have q1 := h10_4 hc
              refine ok_bind (H.c34 (by unfold Pre; omega)) fun r12 h12 => ?_
              obtain ⟨h12_1, h12_2, h12_3, h12_4⟩ := h12
              refine ok_cond (fun hc => ?_) (fun hc => ?_)
              · have q := h12_3 hc
                obtain ⟨q1, q2⟩ := q
                refine ok_bind (H.c36 (by unfold Pre; omega)) fun r13 h13 => ?_
                obtain ⟨h13_1, h13_2, h13_3, h13_4, h13_5, h13_6, h13_7⟩ := h13
                refine ok_bind (H.c46 (by unfold Pre; omega)) fun r14 h14 => ?_
                obtain ⟨h14_1, h14_2, h14_3, h14_4, h14_5, h14_6, h14_7⟩ := h14
                refine ok_bind (H.c36 (by unfold Pre; omega)) fun r15 h15 => ?_
                obtain ⟨h15_1, h15_2, h15_3, h15_4, h15_5, h15_6, h15_7⟩ := h15
                refine ok_bind (H.c89 (by unfold Pre; omega)) fun r16 h16 => ?_
                obtain ⟨h16_1, h16_2, h16_3, h16_4, h16_5, h16_6, h16_7⟩ := h16
                refine ok_bind (H.c36 (by unfold Pre; omega)) fun r17 h17 => ?_
                obtain ⟨h17_1, h17_2, h17_3, h17_4, h17_5, h17_6, h17_7⟩ := h17
                exact ok_some (by unfold PQ; dsimp only; (try simp only [wI, i64w, NL.len, NL.snoc_len, ST, implies_true]) <;> omega)
              · have q1 := h12_4 hc
                refine ok_bind (H.c34 (by unfold Pre; omega)) fun r18 h18 => ?_
                obtain ⟨h18_1, h18_2, h18_3, h18_4⟩ := h18
                refine ok_cond (fun hc => ?_) (fun hc => ?_)
                · have q := h18_3 hc
                  obtain ⟨q1, q2⟩ := q
                  refine ok_bind (H.c36 (by unfold Pre; omega)) fun r19 h19 => ?_
                  obtain ⟨h19_1, h19_2, h19_3, h19_4, h19_5, h19_6, h19_7⟩ := h19
                  refine ok_bind (H.c89 (by unfold Pre; omega)) fun r20 h20 => ?_
                  obtain ⟨h20_1, h20_2, h20_3, h20_4, h20_5, h20_6, h20_7⟩ := h20
                  refine ok_bind (H.c36 (by unfold Pre; omega)) fun r21 h21 => ?_
                  obtain ⟨h21_1, h21_2, h21_3, h21_4, h21_5, h21_6, h21_7⟩ := h21
                  exact ok_some (by unfold PQ; dsimp only; (try simp only [wI, i64w, NL.len, NL.snoc_len, ST, implies_true]) <;> omega)
                · have q1 := h18_4 hc
                  refine ok_bind (H.c34 (by unfold Pre; omega)) fun r22 h22 => ?_
                  obtain ⟨h22_1, h22_2, h22_3, h22_4⟩ := h22
                  refine ok_cond (fun hc => ?_) (fun hc => ?_)
                  · have q := h22_3 hc
                    obtain ⟨q1, q2⟩ := q
                    refine ok_bind (H.c36 (by unfold Pre; omega)) fun r23 h23 => ?_
                    obtain ⟨h23_1, h23_2, h23_3, h23_4, h23_5, h23_6, h23_7⟩ := h23
                    refine ok_bind (H.c89 (by unfold Pre; omega)) fun r24 h24 => ?_
                    obtain ⟨h24_1, h24_2, h24_3, h24_4, h24_5, h24_6, h24_7⟩ := h24
                    refine ok_bind (H.c36 (by unfold Pre; omega)) fun r25 h25 => ?_
                    obtain ⟨h25_1, h25_2, h25_3, h25_4, h25_5, h25_6, h25_7⟩ := h25
                    exact ok_some (by unfold PQ; dsimp only; (try simp only [wI, i64w, NL.len, NL.snoc_len, ST, implies_true]) <;> omega)
                  · have q1 := h22_4 hc
                    refine ok_bind (H.c34 (by unfold Pre; omega)) fun r26 h26 => ?_
                    obtain ⟨h26_1, h26_2, h26_3, h26_4⟩ := h26
                    refine ok_cond (fun hc => ?_) (fun hc => ?_)
                    · have q := h26_3 hc
                      obtain ⟨q1, q2⟩ := q
                      refine ok_bind (H.c39 (by unfold Pre; omega)) fun r27 h27 => ?_
                      obtain ⟨h27_1, h27_2, h27_3, h27_4, h27_5, h27_6, h27_7⟩ := h27
                      exact ok_some (by unfold PQ; dsimp only; (try simp only [wI, i64w, NL.len, NL.snoc_len, ST, implies_true]) <;> omega)
                    · have q1 := h26_4 hc
                      refine ok_bind (H.c34 (by unfold Pre; omega)) fun r28 h28 => ?_
                      obtain ⟨h28_1, h28_2, h28_3, h28_4⟩ := h28
                      refine ok_cond (fun hc => ?_) (fun hc => ?_)
                      · have q := h28_3 hc
                        obtain ⟨q1, q2⟩ := q
                        refine ok_bind (H.c89 (by unfold Pre; omega)) fun r29 h29 => ?_
                        obtain ⟨h29_1, h29_2, h29_3, h29_4, h29_5, h29_6, h29_7⟩ := h29
                        refine ok_bind (H.c36 (by unfold Pre; omega)) fun r30 h30 => ?_
                        obtain ⟨h30_1, h30_2, h30_3, h30_4, h30_5, h30_6, h30_7⟩ := h30
                        exact ok_some (by unfold PQ; dsimp only; (try simp only [wI, i64w, NL.len, NL.snoc_len, ST, implies_true]) <;> omega)
                      · have q1 := h28_4 hc
                        refine ok_bind (H.c40 (by decide) (by unfold Pre4; omega)) fun r31 h31 => ?_
                        obtain ⟨h31_1, h31_2, h31_3, h31_4⟩ := h31
                        exact ok_some (by unfold PQ; dsimp only; (try simp only [wI, i64w, NL.len, NL.snoc_len, ST, implies_true]) <;> omega)
theorem T87 {L : List Wd} (hL : LOk L) {n : Nat} (H : HH L n) {i d e a : Int} (h : Pre L (n + 1) 16 i d e) : OKr (F87 (pn L n) L n i d e a) (PQ L (L.length + 5) i d e) := by
  obtain ⟨p1, p2, p3, p4, p5, p6, p7⟩ := h
  have hN := hL.len
  unfold F87
  refine ok_bind (H.c88 (by unfold Pre; omega)) fun r1 h1 => ?_
  obtain ⟨h1_1, h1_2, h1_3, h1_4, h1_5, h1_6, h1_7⟩ := h1
  refine ok_bind (lP87 hL H (by omega) (by unfold LPre; omega)) fun r2 h2 => ?_
  obtain ⟨h2_1, h2_2, h2_3, h2_4, h2_5, h2_6⟩ := h2
  exact ok_some (by unfold PQ; dsimp only; (try simp only [wI, i64w, NL.len, NL.snoc_len, ST, implies_true]) <;> omega)
theorem T86 {L : List Wd} (hL : LOk L) {n : Nat} (H : HH L n) {i d e a : Int} (h : Pre L (n + 1) 17 i d e) : OKr (F86 (pn L n) L n i d e a) (PQ L (L.length + 5) i d e) := by
  obtain ⟨p1, p2, p3, p4, p5, p6, p7⟩ := h
  have hN := hL.len
  unfold F86
  refine ok_bind (H.c37 (by first | decide | simp) (by unfold Pre; omega)) fun r1 h1 => ?_
  obtain ⟨h1_1, h1_2, h1_3, h1_4⟩ := h1
  refine ok_cond (fun hc => ?_) (fun hc => ?_)
  · have q1 := h1_4 hc
    refine ok_bind (H.c58 (by unfold Pre; omega)) fun r2 h2 => ?_
    obtain ⟨h2_1, h2_2, h2_3, h2_4, h2_5, h2_6⟩ := h2
    refine ok_bind (H.c22 (by unfold Pre; omega)) fun r3 h3 => ?_
    obtain ⟨h3_1, h3_2, h3_3, h3_4⟩ := h3
    refine ok_bind (H.c44 (by unfold Pre; omega)) fun r4 h4 => ?_
    obtain ⟨h4_1, h4_2, h4_3, h4_4⟩ := h4
    skip
    refine ok_bind (H.c86 (by unfold Pre; omega)) fun r5 h5 => ?_
    obtain ⟨h5_1, h5_2, h5_3, h5_4, h5_5, h5_6, h5_7⟩ := h5
    exact ok_some (by unfold PQ; dsimp only; (try simp only [wI, i64w, NL.len, NL.snoc_len, ST, implies_true]) <;> omega)
  · skip
    refine ok_bind (H.c87 (by unfold Pre; omega)) fun r6 h6 => ?_
    obtain ⟨h6_1, h6_2, h6_3, h6_4, h6_5, h6_6, h6_7⟩ := h6
    exact ok_some (by unfold PQ; dsimp only; (try simp only [wI, i64w, NL.len, NL.snoc_len, ST, implies_true]) <;> omega)
theorem T69_4 {L : List Wd} (hL : LOk L) {n : Nat} (H : HH L n) {x : Int} {i d e a : Int} (h : Pre L (n + 1) 18 i d e) : OKr (F69_4 (pn L n) L n x i d e a) (PQ L (L.length + 5) i d e) := by
  obtain ⟨p1, p2, p3, p4, p5, p6, p7⟩ := h
  have hN := hL.len
  unfold F69_4
  refine ok_bind (H.c86 (by unfold Pre; omega)) fun r1 h1 => ?_
  obtain ⟨h1_1, h1_2, h1_3, h1_4, h1_5, h1_6, h1_7⟩ := h1
  refine ok_bind (lR4 hL H (by omega) (by unfold LPre; omega)) fun r2 h2 => ?_
  obtain ⟨h2_1, h2_2, h2_3, h2_4, h2_5, h2_6⟩ := h2
  exact ok_some (by unfold PQ; dsimp only; (try simp only [wI, i64w, NL.len, NL.snoc_len, ST, implies_true]) <;> omega)
theorem T83 {L : List Wd} (hL : LOk L) {n : Nat} (H : HH L n) {i d e a : Int} (h : Pre L (n + 1) 19 i d e) : OKr (F83 (pn L n) L n i d e a) (PQ L (L.length + 5) i d e) := by
  obtain ⟨p1, p2, p3, p4, p5, p6, p7⟩ := h
  have hN := hL.len
  unfold F83
  refine ok_bind (H.c69_4 (by unfold Pre; omega)) fun r1 h1 => ?_
  obtain ⟨h1_1, h1_2, h1_3, h1_4, h1_5, h1_6, h1_7⟩ := h1
  exact ok_some (by unfold PQ; dsimp only; (try simp only [wI, i64w, NL.len, NL.snoc_len, ST, implies_true]) <;> omega)
theorem T69_3 {L : List Wd} (hL : LOk L) {n : Nat} (H : HH L n) {x : Int} {i d e a : Int} (h : Pre L (n + 1) 20 i d e) : OKr (F69_3 (pn L n) L n x i d e a) (PQ L (L.length + 5) i d e) := by
  obtain ⟨p1, p2, p3, p4, p5, p6, p7⟩ := h
  have hN := hL.len
  unfold F69_3
  refine ok_bind (H.c83 (by unfold Pre; omega)) fun r1 h1 => ?_
  obtain ⟨h1_1, h1_2, h1_3, h1_4, h1_5, h1_6, h1_7⟩ := h1
  refine ok_bind (lR3 hL H (by omega) (by unfold LPre; omega)) fun r2 h2 => ?_
  obtain ⟨h2_1, h2_2, h2_3, h2_4, h2_5, h2_6⟩ := h2
  exact ok_some (by unfold PQ; dsimp only; (try simp only [wI, i64w, NL.len, NL.snoc_len, ST, implies_true]) <;> omega)
theorem T77 {L : List Wd} (hL : LOk L) {n : Nat} (H : HH L n) {i d e a : Int} (h : Pre L (n + 1) 21 i d e) : OKr (F77 (pn L n) L n i d e a) (PQ L (L.length + 5) i d e) := by
  obtain ⟨p1, p2, p3, p4, p5, p6, p7⟩ := h
  have hN := hL.len
  unfold F77
  refine ok_bind (H.c69_3 (by unfold Pre; omega)) fun r1 h1 => ?_
  obtain ⟨h1_1, h1_2, h1_3, h1_4, h1_5, h1_6, h1_7⟩ := h1
  exact ok_some (by unfold PQ; dsimp only; (try simp only [wI, i64w, NL.len, NL.snoc_len, ST, implies_true]) <;> omega)
theorem T69_2 {L : List Wd} (hL : LOk L) {n : Nat} (H : HH L n) {x : Int} {i d e a : Int} (h : Pre L (n + 1) 22 i d e) : OKr (F69_2 (pn L n) L n x i d e a) (PQ L (L.length + 5) i d e) := by
  obtain ⟨p1, p2, p3, p4, p5, p6, p7⟩ := h
  have hN := hL.len
  unfold F69_2
  refine ok_bind (H.c77 (by unfold Pre; omega)) fun r1 h1 => ?_
  obtain ⟨h1_1, h1_2, h1_3, h1_4, h1_5, h1_6, h1_7⟩ := h1
  refine ok_bind (lR2 hL H (by omega) (by unfold LPre; omega)) fun r2 h2 => ?_
  obtain ⟨h2_1, h2_2, h2_3, h2_4, h2_5, h2_6⟩ := h2
  exact ok_some (by unfold PQ; dsimp only; (try simp only [wI, i64w, NL.len, NL.snoc_len, ST, implies_true]) <;> omega)
theorem T72 {L : List Wd} (hL : LOk L) {n : Nat} (H : HH L n) {i d e a : Int} (h : Pre L (n + 1) 23 i d e) : OKr (F72 (pn L n) L n i d e a) (PQ L (L.length + 5) i d e) := by
  obtain ⟨p1, p2, p3, p4, p5, p6, p7⟩ := h
  have hN := hL.len
  unfold F72
  refine ok_bind (H.c69_2 (by unfold Pre; omega)) fun r1 h1 => ?_
  obtain ⟨h1_1, h1_2, h1_3, h1_4, h1_5, h1_6, h1_7⟩ := h1
  exact ok_some (by unfold PQ; dsimp only; (try simp only [wI, i64w, NL.len, NL.snoc_len, ST, implies_true]) <;> omega)
theorem T69_1 {L : List Wd} (hL : LOk L) {n : Nat} (H : HH L n) {x : Int} {i d e a : Int} (h : Pre L (n + 1) 24 i d e) : OKr (F69_1 (pn L n) L n x i d e a) (PQ L (L.length + 5) i d e) := by
  obtain ⟨p1, p2, p3, p4, p5, p6, p7⟩ := h
  have hN := hL.len
  unfold F69_1
  refine ok_bind (H.c72 (by unfold Pre; omega)) fun r1 h1 => ?_
  obtain ⟨h1_1, h1_2, h1_3, h1_4, h1_5, h1_6, h1_7⟩ := h1
  refine ok_bind (lR1 hL H (by omega) (by unfold LPre; omega)) fun r2 h2 => ?_
  obtain ⟨h2_1, h2_2, h2_3, h2_4, h2_5, h2_6⟩ := h2
  exact ok_some (by unfold PQ; dsimp only; (try simp only [wI, i64w, NL.len, NL.snoc_len, ST, implies_true]) <;> omega)
theorem T70 {L : List Wd} (hL : LOk L) {n : Nat} (H : HH L n) {i d e a : Int} (h : Pre L (n + 1) 25 i d e) : OKr (F70 (pn L n) L n i d e a) (PQ L (L.length + 5) i d e) := by
  obtain ⟨p1, p2, p3, p4, p5, p6, p7⟩ := h
  have hN := hL.len
  unfold F70
  refine ok_bind (H.c69_1 (by unfold Pre; omega)) fun r1 h1 => ?_
  obtain ⟨h1_1, h1_2, h1_3, h1_4, h1_5, h1_6, h1_7⟩ := h1
  exact ok_some (by unfold PQ; dsimp only; (try simp only [wI, i64w, NL.len, NL.snoc_len, ST, implies_true]) <;> omega)
theorem T69_0 {L : List Wd} (hL : LOk L) {n : Nat} (H : HH L n) {x : Int} {i d e a : Int} (h : Pre L (n + 1) 26 i d e) : OKr (F69_0 (pn L n) L n x i d e a) (PQ L (L.length + 5) i d e) := by
  obtain ⟨p1, p2, p3, p4, p5, p6, p7⟩ := h
  have hN := hL.len
  unfold F69_0
  refine ok_bind (H.c70 (by unfold Pre; omega)) fun r1 h1 => ?_
  obtain ⟨h1_1, h1_2, h1_3, h1_4, h1_5, h1_6, h1_7⟩ := h1
  refine ok_bind (lR0 hL H (by omega) (by unfold LPre; omega)) fun r2 h2 => ?_
  obtain ⟨h2_1, h2_2, h2_3, h2_4, h2_5, h2_6⟩ := h2
  exact ok_some (by unfold PQ; dsimp only; (try simp only [wI, i64w, NL.len, NL.snoc_len, ST, implies_true]) <;> omega)
theorem T64 {L : List Wd} (hL : LOk L) {n : Nat} (H : HH L n) {i d e a : Int} (h : Pre L (n + 1) 27 i d e) : OKr (F64 (pn L n) L n i d e a) (PQ L (L.length + 5) i d e) := by
  obtain ⟨p1, p2, p3, p4, p5, p6, p7⟩ := h
  have hN := hL.len
  unfold F64
  refine ok_bind (H.c69_0 (by unfold Pre; omega)) fun r1 h1 => ?_
  obtain ⟨h1_1, h1_2, h1_3, h1_4, h1_5, h1_6, h1_7⟩ := h1
  exact ok_some (by unfold PQ; dsimp only; (try simp only [wI, i64w, NL.len, NL.snoc_len, ST, implies_true]) <;> omega)
theorem T89 {L : List Wd} (hL : LOk L) {n : Nat} (H : HH L n) {i d e a : Int} (h : Pre L (n + 1) 28 i d e) : OKr (F89 (pn L n) L n i d e a) (PQ L (L.length + 5) i d e) := by
  obtain ⟨p1, p2, p3, p4, p5, p6, p7⟩ := h
  have hN := hL.len
  unfold F89
  refine ok_bind (H.c58 (by unfold Pre; omega)) fun r1 h1 => ?_
  obtain ⟨h1_1, h1_2, h1_3, h1_4, h1_5, h1_6⟩ := h1
  refine ok_bind (H.c64 (by unfold Pre; omega)) fun r2 h2 => ?_
  obtain ⟨h2_1, h2_2, h2_3, h2_4, h2_5, h2_6, h2_7⟩ := h2
  exact ok_some (by unfold PQ; dsimp only; (try simp only [wI, i64w, NL.len, NL.snoc_len, ST, implies_true]) <;> omega)
theorem T47_89 {L : List Wd} (hL : LOk L) {n : Nat} (H : HH L n) {i d e a : Int} (h : Pre L (n + 1) 29 i d e) : OKr (F47_89 (pn L n) L n i d e a) (PG L (L.length + 1) i d e) := by
  obtain ⟨p1, p2, p3, p4, p5, p6, p7⟩ := h
  have hN := hL.len
  unfold F47_89
  refine ok_bind (l47g89 hL H (by unfold LPre; omega)) fun r1 h1 => ?_
  obtain ⟨h1_1, h1_2, h1_3, h1_4, h1_5, h1_6⟩ := h1
  refine ok_bind (H.c36 (by unfold Pre; omega)) fun r2 h2 => ?_
  obtain ⟨h2_1, h2_2, h2_3, h2_4, h2_5, h2_6, h2_7⟩ := h2
  exact ok_some (by unfold PG; dsimp only; (try simp only [wI, i64w, NL.len, NL.snoc_len, ST, implies_true]) <;> omega)
theorem T65 {L : List Wd} (hL : LOk L) {n : Nat} (H : HH L n) {i d e a : Int} (h : Pre L (n + 1) 30 i d e) : OKr (F65 (pn L n) L n i d e a) (PQ L 2 i d e) := by
  obtain ⟨p1, p2, p3, p4, p5, p6, p7⟩ := h
  have hN := hL.len
  unfold F65
  refine ok_bind (H.c64 (by unfold Pre; omega)) fun r1 h1 => ?_
  obtain ⟨h1_1, h1_2, h1_3, h1_4, h1_5, h1_6, h1_7⟩ := h1
  refine ok_bind (H.c36 (by unfold Pre; omega)) fun r2 h2 => ?_
  obtain ⟨h2_1, h2_2, h2_3, h2_4, h2_5, h2_6, h2_7⟩ := h2
  refine ok_bind (H.c64 (by unfold Pre; omega)) fun r3 h3 => ?_
  obtain ⟨h3_1, h3_2, h3_3, h3_4, h3_5, h3_6, h3_7⟩ := h3
  exact ok_some (by unfold PQ; dsimp only; (try simp only [wI, i64w, NL.len, NL.snoc_len, ST, implies_true]) <;> omega)
theorem T67 {L : List Wd} (hL : LOk L) {n : Nat} (H : HH L n) {i d e a : Int} (h : Pre L (n + 1) 31 i d e) : OKr (F67 (pn L n) L n i d e a) (PQ L (L.length + 5) i d e) := by
  obtain ⟨p1, p2, p3, p4, p5, p6, p7⟩ := h
  have hN := hL.len
  unfold F67
  refine ok_bind (H.c22 (by unfold Pre; omega)) fun r1 h1 => ?_
  obtain ⟨h1_1, h1_2, h1_3, h1_4⟩ := h1
  refine ok_bind (H.c64 (by unfold Pre; omega)) fun r2 h2 => ?_
  obtain ⟨h2_1, h2_2, h2_3, h2_4, h2_5, h2_6, h2_7⟩ := h2
  refine ok_bind (H.c37 (by first | decide | simp) (by unfold Pre; omega)) fun r3 h3 => ?_
  obtain ⟨h3_1, h3_2, h3_3, h3_4⟩ := h3
  refine ok_cond (fun hc => ?_) (fun hc => ?_)
  · have q1 := h3_4 hc
    refine ok_bind (H.c44 (by unfold Pre; omega)) fun r4 h4 => ?_
    obtain ⟨h4_1, h4_2, h4_3, h4_4⟩ := h4
    skip
    refine ok_bind (H.c64 (by unfold Pre; omega)) fun r5 h5 => ?_
    obtain ⟨h5_1, h5_2, h5_3, h5_4, h5_5, h5_6, h5_7⟩ := h5
    refine ok_bind (H.c36 (by unfold Pre; omega)) fun r6 h6 => ?_
    obtain ⟨h6_1, h6_2, h6_3, h6_4, h6_5, h6_6, h6_7⟩ := h6
    exact ok_some (by unfold PQ; dsimp only; (try simp only [wI, i64w, NL.len, NL.snoc_len, ST, implies_true]) <;> omega)
  · skip
    refine ok_bind (H.c36 (by unfold Pre; omega)) fun r7 h7 => ?_
    obtain ⟨h7_1, h7_2, h7_3, h7_4, h7_5, h7_6, h7_7⟩ := h7
    exact ok_some (by unfold PQ; dsimp only; (try simp only [wI, i64w, NL.len, NL.snoc_len, ST, implies_true]) <;> omega)
set_option maxHeartbeats 4000000 in
theorem T66 {L : List Wd} (hL : LOk L) {n : Nat} (H : HH L n) {i d e a : Int} (h : Pre L (n + 1) 32 i d e) : OKr (F66 (pn L n) L n i d e a) (PQ L (L.length + 5) i d e) := by
  obtain ⟨p1, p2, p3, p4, p5, p6, p7⟩ := h
  have hN := hL.len
  unfold F66
  refine ok_bind (H.c22 (by unfold Pre; omega)) fun r1 h1 => ?_
  obtain ⟨h1_1, h1_2, h1_3, h1_4⟩ := h1
  refine ok_bind (H.c34 (by unfold Pre; omega)) fun r2 h2 => ?_
  obtain ⟨h2_1, h2_2, h2_3, h2_4⟩ := h2
  refine ok_cond (fun hc => ?_) (fun hc => ?_)
  · have q := h2_3 hc
    obtain ⟨q1, q2⟩ := q
    refine ok_bind (H.c50 (by unfold Pre; omega)) fun r3 h3 => ?_
    obtain ⟨h3_1, h3_2, h3_3, h3_4, h3_5, h3_6, h3_7⟩ := h3
    exact ok_some (by unfold PQ; dsimp only; (try simp only [wI, i64w, NL.len, NL.snoc_len, ST, implies_true]) <;> omega)
  · have q1 := h2_4 hc
    refine ok_bind (H.c36 (by unfold Pre; omega)) fun r4 h4 => ?_
    obtain ⟨h4_1, h4_2, h4_3, h4_4, h4_5, h4_6, h4_7⟩ := h4
    refine ok_bind (H.c34 (by unfold Pre; omega)) fun r5 h5 => ?_
    obtain ⟨h5_1, h5_2, h5_3, h5_4⟩ := h5
    refine ok_cond (fun hc => ?_) (fun hc => ?_)
    · have q := h5_3 hc
      obtain ⟨q1, q2⟩ := q
      refine ok_bind (H.c35 (by unfold Pre; omega)) fun r6 h6 => ?_
      obtain ⟨h6_1, h6_2, h6_3, h6_4, h6_5, h6_6, h6_7⟩ := h6
      refine ok_bind (H.c36 (by unfold Pre; omega)) fun r7 h7 => ?_
      obtain ⟨h7_1, h7_2, h7_3, h7_4, h7_5, h7_6, h7_7⟩ := h7
      refine ok_bind (H.c64 (by unfold Pre; omega)) fun r8 h8 => ?_
      obtain ⟨h8_1, h8_2, h8_3, h8_4, h8_5, h8_6, h8_7⟩ := h8
      refine ok_bind (H.c50 (by unfold Pre; omega)) fun r9 h9 => ?_
      obtain ⟨h9_1, h9_2, h9_3, h9_4, h9_5, h9_6, h9_7⟩ := h9
      exact ok_some (by unfold PQ; dsimp only; (try simp only [wI, i64w, NL.len, NL.snoc_len, ST, implies_true]) <;> omega)
    · have q1 := h5_4 hc
      refine ok_bind (H.c36 (by unfold Pre; omega)) fun r10 h10 => ?_
      obtain ⟨h10_1, h10_2, h10_3, h10_4, h10_5, h10_6, h10_7⟩ := h10
      refine ok_bind (H.c65 (by unfold Pre; omega)) fun r11 h11 => ?_
      obtain ⟨h11_1, h11_2, h11_3, h11_4, h11_5, h11_6, h11_7⟩ := h11
      refine ok_bind (H.c50 (by unfold Pre; omega)) fun r12 h12 => ?_
      obtain ⟨h12_1, h12_2, h12_3, h12_4, h12_5, h12_6, h12_7⟩ := h12
      refine ok_ble (by omega) ?_
      exact ok_some (by unfold PQ; dsimp only; (try simp only [wI, i64w, NL.len, NL.snoc_len, ST, implies_true]) <;> omega)
set_option maxHeartbeats 4000000 in
theorem T60 {L : List Wd} (hL : LOk L) {n : Nat} (H : HH L n) {i d e a : Int} (h : Pre L (n + 1) 33 i d e) : OKr (F60 (pn L n) L n i d e a) (PQ L (L.length + 5) i d e) := by
  obtain ⟨p1, p2, p3, p4, p5, p6, p7⟩ := h
  have hN := hL.len
  unfold F60
  refine ok_has hL (by omega) (by omega) ?_
  refine ok_bind (H.c22 (by unfold Pre; omega)) fun r1 h1 => ?_
  obtain ⟨h1_1, h1_2, h1_3, h1_4⟩ := h1
  refine ok_bind (H.c37 (by first | decide | simp) (by unfold Pre; omega)) fun r2 h2 => ?_
  obtain ⟨h2_1, h2_2, h2_3, h2_4⟩ := h2
  refine ok_cond (fun hc => ?_) (fun hc => ?_)
  · have q1 := h2_4 hc
    refine ok_bind (H.c50 (by unfold Pre; omega)) fun r3 h3 => ?_
    obtain ⟨h3_1, h3_2, h3_3, h3_4, h3_5, h3_6, h3_7⟩ := h3
    exact ok_some (by unfold PQ; dsimp only; (try simp only [wI, i64w, NL.len, NL.snoc_len, ST, implies_true]) <;> omega)
  · skip
    refine ok_bind (H.c34 (by unfold Pre; omega)) fun r4 h4 => ?_
    obtain ⟨h4_1, h4_2, h4_3, h4_4⟩ := h4
    refine ok_cond (fun hc => ?_) (fun hc => ?_)
    · have q := h4_3 hc
      obtain ⟨q1, q2⟩ := q
      refine ok_bind (H.c38 (by unfold Pre; omega)) fun r5 h5 => ?_
      obtain ⟨h5_1, h5_2, h5_3, h5_4, h5_5, h5_6, h5_7⟩ := h5
      refine ok_bind (H.c36 (by unfold Pre; omega)) fun r6 h6 => ?_
      obtain ⟨h6_1, h6_2, h6_3, h6_4, h6_5, h6_6, h6_7⟩ := h6
      refine ok_bind (H.c64 (by unfold Pre; omega)) fun r7 h7 => ?_
      obtain ⟨h7_1, h7_2, h7_3, h7_4, h7_5, h7_6, h7_7⟩ := h7
      refine ok_ble (by omega) ?_
      refine ok_bind (H.c36 (by unfold Pre; omega)) fun r8 h8 => ?_
      obtain ⟨h8_1, h8_2, h8_3, h8_4, h8_5, h8_6, h8_7⟩ := h8
      exact ok_some (by unfold PQ; dsimp only; (try simp only [wI, i64w, NL.len, NL.snoc_len, ST, implies_true]) <;> omega)
    · have q1 := h4_4 hc
      refine ok_bind (H.c34 (by unfold Pre; omega)) fun r9 h9 => ?_
      obtain ⟨h9_1, h9_2, h9_3, h9_4⟩ := h9
      refine ok_cond (fun hc => ?_) (fun hc => ?_)
      · have q := h9_3 hc
        obtain ⟨q1, q2⟩ := q
        refine ok_bind (H.c64 (by unfold Pre; omega)) fun r10 h10 => ?_
        obtain ⟨h10_1, h10_2, h10_3, h10_4, h10_5, h10_6, h10_7⟩ := h10
        refine ok_bind (H.c50 (by unfold Pre; omega)) fun r11 h11 => ?_
        obtain ⟨h11_1, h11_2, h11_3, h11_4, h11_5, h11_6, h11_7⟩ := h11
        refine ok_bind (H.c34 (by unfold Pre; omega)) fun r12 h12 => ?_
        obtain ⟨h12_1, h12_2, h12_3, h12_4⟩ := h12
        refine ok_cond (fun hc => ?_) (fun hc => ?_)
        · have q := h12_3 hc
          obtain ⟨q1, q2⟩ := q
          refine ok_bind (H.c50 (by unfold Pre; omega)) fun r13 h13 => ?_
          obtain ⟨h13_1, h13_2, h13_3, h13_4, h13_5, h13_6, h13_7⟩ := h13
          exact ok_some (by unfold PQ; dsimp only; (try simp only [wI, i64w, NL.len, NL.snoc_len, ST, implies_true]) <;> omega)
        · have q1 := h12_4 hc
          refine ok_bind (H.c22 (by unfold Pre; omega)) fun r14 h14 => ?_
          obtain ⟨h14_1, h14_2, h14_3, h14_4⟩ := h14
          exact ok_some (by unfold PQ; dsimp only; (try simp only [wI, i64w, NL.len, NL.snoc_len, ST, implies_true]) <;> omega)
      · have q1 := h9_4 hc
        refine ok_bind (H.c34 (by unfold Pre; omega)) fun r15 h15 => ?_
        obtain ⟨h15_1, h15_2, h15_3, h15_4⟩ := h15
        refine ok_cond (fun hc => ?_) (fun hc => ?_)
        · have q := h15_3 hc
          obtain ⟨q1, q2⟩ := q
          refine ok_bind (H.c64 (by unfold Pre; omega)) fun r16 h16 => ?_
          obtain ⟨h16_1, h16_2, h16_3, h16_4, h16_5, h16_6, h16_7⟩ := h16
          refine ok_bind (H.c50 (by unfold Pre; omega)) fun r17 h17 => ?_
          obtain ⟨h17_1, h17_2, h17_3, h17_4, h17_5, h17_6, h17_7⟩ := h17
          exact ok_some (by unfold PQ; dsimp only; (try simp only [wI, i64w, NL.len, NL.snoc_len, ST, implies_true]) <;> omega)
        · have q1 := h15_4 hc
          refine ok_bind (H.c34 (by unfold Pre; omega)) fun r18 h18 => ?_
          obtain ⟨h18_1, h18_2, h18_3, h18_4⟩ := h18
          refine ok_cond (fun hc => ?_) (fun hc => ?_)
          · have q := h18_3 hc
            obtain ⟨q1, q2⟩ := q
            refine ok_bind (H.c37 (by first | decide | simp) (by unfold Pre; omega)) fun r19 h19 => ?_
            obtain ⟨h19_1, h19_2, h19_3, h19_4⟩ := h19
            refine ok_cond (fun hc => ?_) (fun hc => ?_)
            · have q1 := h19_4 hc
              refine ok_bind (H.c22 (by unfold Pre; omega)) fun r20 h20 => ?_
              obtain ⟨h20_1, h20_2, h20_3, h20_4⟩ := h20
              refine ok_bind (H.c36 (by unfold Pre; omega)) fun r21 h21 => ?_
              obtain ⟨h21_1, h21_2, h21_3, h21_4, h21_5, h21_6, h21_7⟩ := h21
              exact ok_some (by unfold PQ; dsimp only; (try simp only [wI, i64w, NL.len, NL.snoc_len, ST, implies_true]) <;> omega)
            · skip
              refine ok_bind (H.c64 (by unfold Pre; omega)) fun r22 h22 => ?_
              obtain ⟨h22_1, h22_2, h22_3, h22_4, h22_5, h22_6, h22_7⟩ := h22
              refine ok_bind (H.c36 (by unfold Pre; omega)) fun r23 h23 => ?_
              obtain ⟨h23_1, h23_2, h23_3, h23_4, h23_5, h23_6, h23_7⟩ := h23
              exact ok_some (by unfold PQ; dsimp only; (try simp only [wI, i64w, NL.len, NL.snoc_len, ST, implies_true]) <;> omega)
          · have q1 := h18_4 hc
            refine ok_bind (H.c34 (by unfold Pre; omega)) fun r24 h24 => ?_
            obtain ⟨h24_1, h24_2, h24_3, h24_4⟩ := h24
            refine ok_cond (fun hc => ?_) (fun hc => ?_)
            · have q := h24_3 hc
              obtain ⟨q1, q2⟩ := q
              refine ok_bind (H.c64 (by unfold Pre; omega)) fun r25 h25 => ?_
              obtain ⟨h25_1, h25_2, h25_3, h25_4, h25_5, h25_6, h25_7⟩ := h25
              refine ok_bind (H.c36 (by unfold Pre; omega)) fun r26 h26 => ?_
              obtain ⟨h26_1, h26_2, h26_3, h26_4, h26_5, h26_6, h26_7⟩ := h26
              exact ok_some (by unfold PQ; dsimp only; (try simp only [wI, i64w, NL.len, NL.snoc_len, ST, implies_true]) <;> omega)
            · have q1 := h24_4 hc
              refine ok_bind (H.c34 (by unfold Pre; omega)) fun r27 h27 => ?_
              obtain ⟨h27_1, h27_2, h27_3, h27_4⟩ := h27
              refine ok_cond (fun hc => ?_) (fun hc => ?_)
              · have q := h27_3 hc
                obtain ⟨q1, q2⟩ := q
                refine ok_bind (H.c64 (by unfold Pre; omega)) fun r28 h28 => ?_
                obtain ⟨h28_1, h28_2, h28_3, h28_4, h28_5, h28_6, h28_7⟩ := h28
                refine ok_bind (H.c36 (by unfold Pre; omega)) fun r29 h29 => ?_
                obtain ⟨h29_1, h29_2, h29_3, h29_4, h29_5, h29_6, h29_7⟩ := h29
                exact ok_some (by unfold PQ; dsimp only; (try simp only [wI, i64w, NL.len, NL.snoc_len, ST, implies_true]) <;> omega)
              · have q1 := h27_4 hc
                refine ok_bind (H.c34 (by unfold Pre; omega)) fun r30 h30 => ?_
                obtain ⟨h30_1, h30_2, h30_3, h30_4⟩ := h30
                refine ok_cond (fun hc => ?_) (fun hc => ?_)
                · have q := h30_3 hc
                  obtain ⟨q1, q2⟩ := q
                  refine ok_bind (H.c64 (by unfold Pre; omega)) fun r31 h31 => ?_
                  obtain ⟨h31_1, h31_2, h31_3, h31_4, h31_5, h31_6, h31_7⟩ := h31
                  refine ok_cond (fun hc => ?_) (fun hc => ?_)
                  · skip
                    refine ok_bind (H.c40 (by decide) (by unfold Pre4; omega)) fun r32 h32 => ?_
                    obtain ⟨h32_1, h32_2, h32_3, h32_4⟩ := h32
                    refine ok_bind (H.c36 (by unfold Pre; omega)) fun r33 h33 => ?_
                    obtain ⟨h33_1, h33_2, h33_3, h33_4, h33_5, h33_6, h33_7⟩ := h33
                    exact ok_some (by unfold PQ; dsimp only; (try simp only [wI, i64w, NL.len, NL.snoc_len, ST, implies_true]) <;> omega)
                  · skip
                    refine ok_bind (H.c36 (by unfold Pre; omega)) fun r34 h34 => ?_
                    obtain ⟨h34_1, h34_2, h34_3, h34_4, h34_5, h34_6, h34_7⟩ := h34
                    exact ok_some (by unfold PQ; dsimp only; (try simp only [wI, i64w, NL.len, NL.snoc_len, ST, implies_true]) <;> omega)
                · have q1 := h30_4 hc
                  refine ok_bind (H.c34 (by unfold Pre; omega)) fun r35 h35 => ?_
                  obtain ⟨h35_1, h35_2, h35_3, h35_4⟩ := h35
                  refine ok_cond (fun hc => ?_) (fun hc => ?_)
                  · have q := h35_3 hc
                    obtain ⟨q1, q2⟩ := q
                    refine ok_bind (H.c65 (by unfold Pre; omega)) fun r36 h36 => ?_
                    obtain ⟨h36_1, h36_2, h36_3, h36_4, h36_5, h36_6, h36_7⟩ := h36
                    refine ok_bind (H.c36 (by unfold Pre; omega)) fun r37 h37 => ?_
                    obtain ⟨h37_1, h37_2, h37_3, h37_4, h37_5, h37_6, h37_7⟩ := h37
                    exact ok_some (by unfold PQ; dsimp only; (try simp only [wI, i64w, NL.len, NL.snoc_len, ST, implies_true]) <;> omega)
                  · have q1 := h35_4 hc
                    refine ok_bind (H.c34 (by unfold Pre; omega)) fun r38 h38 => ?_
                    obtain ⟨h38_1, h38_2, h38_3, h38_4⟩ := h38
                    refine ok_cond (fun hc => ?_) (fun hc => ?_)
                    · have q := h38_3 hc
                      obtain ⟨q1, q2⟩ := q
                      refine ok_bind (H.c36 (by unfold Pre; omega)) fun r39 h39 => ?_
                      obtain ⟨h39_1, h39_2, h39_3, h39_4, h39_5, h39_6, h39_7⟩ := h39
                      refine ok_bind (l60 hL H (by unfold LPre; omega)) fun r40 h40 => ?_
                      obtain ⟨h40_1, h40_2, h40_3, h40_4, h40_5, h40_6⟩ := h40
                      refine ok_bind (H.c36 (by unfold Pre; omega)) fun r41 h41 => ?_
                      obtain ⟨h41_1, h41_2, h41_3, h41_4, h41_5, h41_6, h41_7⟩ := h41
                      exact ok_some (by unfold PQ; dsimp only; (try simp only [wI, i64w, NL.len, NL.snoc_len, ST, implies_true]) <;> omega)
                    · have q1 := h38_4 hc
                      refine ok_bind (H.c67 (by unfold Pre; omega)) fun r42 h42 => ?_
                      obtain ⟨h42_1, h42_2, h42_3, h42_4, h42_5, h42_6, h42_7⟩ := h42
                      exact ok_some (by unfold PQ; dsimp only; (try simp only [wI, i64w, NL.len, NL.snoc_len, ST, implies_true]) <;> omega)
set_option maxHeartbeats 4000000 in
theorem T24 {L : List Wd} (hL : LOk L) {n : Nat} (H : HH L n) {i d e a : Int} (h : Pre L (n + 1) 34 i d e) : OKr (F24 (pn L n) L n i d e a) (PQ L (L.length + 5) i d e) := by
  obtain ⟨p1, p2, p3, p4, p5, p6, p7⟩ := h
  have hN := hL.len
  unfold F24
  refine ok_bind (H.c22 (by unfold Pre; omega)) fun r1 h1 => ?_
  obtain ⟨h1_1, h1_2, h1_3, h1_4⟩ := h1
  refine ok_bind (H.c34 (by unfold Pre; omega)) fun r2 h2 => ?_
  obtain ⟨h2_1, h2_2, h2_3, h2_4⟩ := h2
  refine ok_cond (fun hc => ?_) (fun hc => ?_)
  · have q := h2_3 hc
    obtain ⟨q1, q2⟩ := q
    refine ok_bind (H.c35 (by unfold Pre; omega)) fun r3 h3 => ?_
    obtain ⟨h3_1, h3_2, h3_3, h3_4, h3_5, h3_6, h3_7⟩ := h3
    refine ok_bind (H.c36 (by unfold Pre; omega)) fun r4 h4 => ?_
    obtain ⟨h4_1, h4_2, h4_3, h4_4, h4_5, h4_6, h4_7⟩ := h4
    refine ok_bind (l24 hL H (by unfold LPre; omega)) fun r5 h5 => ?_
    obtain ⟨h5_1, h5_2, h5_3, h5_4, h5_5, h5_6⟩ := h5
    refine ok_bind (H.c36 (by unfold Pre; omega)) fun r6 h6 => ?_
    obtain ⟨h6_1, h6_2, h6_3, h6_4, h6_5, h6_6, h6_7⟩ := h6
    exact ok_some (by unfold PQ; dsimp only; (try simp only [wI, i64w, NL.len, NL.snoc_len, ST, implies_true]) <;> omega)
  · have q1 := h2_4 hc
    refine ok_bind (H.c34 (by unfold Pre; omega)) fun r7 h7 => ?_
    obtain ⟨h7_1, h7_2, h7_3, h7_4⟩ := h7
    refine ok_cond (fun hc => ?_) (fun hc => ?_)
    · have q := h7_3 hc
      obtain ⟨q1, q2⟩ := q
      refine ok_bind (H.c38 (by unfold Pre; omega)) fun r8 h8 => ?_
      obtain ⟨h8_1, h8_2, h8_3, h8_4, h8_5, h8_6, h8_7⟩ := h8
      refine ok_bind (H.c36 (by unfold Pre; omega)) fun r9 h9 => ?_
      obtain ⟨h9_1, h9_2, h9_3, h9_4, h9_5, h9_6, h9_7⟩ := h9
      exact ok_some (by unfold PQ; dsimp only; (try simp only [wI, i64w, NL.len, NL.snoc_len, ST, implies_true]) <;> omega)
    · have q1 := h7_4 hc
      refine ok_bind (H.c34 (by unfold Pre; omega)) fun r10 h10 => ?_
      obtain ⟨h10_1, h10_2, h10_3, h10_4⟩ := h10
      refine ok_cond (fun hc => ?_) (fun hc => ?_)
      · have q := h10_3 hc
        obtain ⟨q1, q2⟩ := q
        refine ok_bind (H.c35 (by unfold Pre; omega)) fun r11 h11 => ?_
        obtain ⟨h11_1, h11_2, h11_3, h11_4, h11_5, h11_6, h11_7⟩ := h11
        refine ok_bind (H.c39 (by unfold Pre; omega)) fun r12 h12 => ?_
        obtain ⟨h12_1, h12_2, h12_3, h12_4, h12_5, h12_6, h12_7⟩ := h12
        exact ok_some (by unfold PQ; dsimp only; (try simp only [wI, i64w, NL.len, NL.snoc_len, ST, implies_true]) <;> omega)
      · have q1 := h10_4 hc
        refine ok_bind (H.c40 (by decide) (by unfold Pre4; omega)) fun r13 h13 => ?_
        obtain ⟨h13_1, h13_2, h13_3, h13_4⟩ := h13
        exact ok_some (by unfold PQ; dsimp only; (try simp only [wI, i64w, NL.len, NL.snoc_len, ST, implies_true]) <;> omega)
theorem T13 {L : List Wd} (hL : LOk L) {n : Nat} (H : HH L n) {i d e a : Int} (h : Pre L (n + 1) 35 i d e) : OKr (F13 (pn L n) L n i d e a) (PG L (L.length + 5) i d e) := by
  obtain ⟨p1, p2, p3, p4, p5, p6, p7⟩ := h
  have hN := hL.len
  unfold F13
  refine ok_bind (H.c22 (by unfold Pre; omega)) fun r1 h1 => ?_
  obtain ⟨h1_1, h1_2, h1_3, h1_4⟩ := h1
  refine ok_bind (l13 hL H (by unfold LPre; omega)) fun r2 h2 => ?_
  obtain ⟨h2_1, h2_2, h2_3, h2_4, h2_5, h2_6⟩ := h2
  exact ok_some (by unfold PG; dsimp only; (try simp only [wI, i64w, NL.len, NL.snoc_len, ST, implies_true]) <;> omega)
theorem T58 {L : List Wd} (hL : LOk L) {n : Nat} (H : HH L n) {i d e a : Int} (h : Pre L (n + 1) 2 i d e) : OKr (F58 (pn L n) L n i d e a) (P58 L i d e) := by
  obtain ⟨p1, p2, p3, p4, p5, p6, p7⟩ := h
  unfold F58
  have hw : wI (d + 1) = d + 1 := by simp only [wI, i64w]; omega
  rw [hw]
  refine ok_cond (fun hc => ?_) fun hc => ?_
  · have hc' := of_decide_eq_true hc
    by_cases he : e = 0
    · refine ok_bind (H.c40 (by decide) (by unfold Pre4; omega)) fun r h => ?_
      obtain ⟨h1, h2, h3, h4⟩ := h
      refine ok_some ?_
      unfold P58
      dsimp only
      omega
    · refine ok_bind (H.c40 (by decide) (by unfold Pre4; omega)) fun r h => ?_
      obtain ⟨h1, h2, h3, h4⟩ := h
      refine ok_some ?_
      unfold P58
      dsimp only
      omega
  · have hc' := of_decide_eq_false hc
    refine ok_some ?_
    unfold P58
    dsimp only
    omega
theorem HH_all {L : List Wd} (hL : LOk L) : ∀ n, HH L n
  | 0 => ⟨fun h => (pre0 h (by decide)).elim, fun _ h => (pre0 h (by decide)).elim, fun h => (pre0 h (by decide)).elim, fun _ h => absurd h pre04, fun h => (pre0 h (by decide)).elim, fun h => (pre0 h (by decide)).elim, fun h => (pre0 h (by decide)).elim, fun h => (pre0 h (by decide)).elim, fun h => (pre0 h (by decide)).elim, fun h => (pre0 h (by decide)).elim, fun h => (pre0 h (by decide)).elim, fun h => (pre0 h (by decide)).elim, fun h => (pre0 h (by decide)).elim, fun h => (pre0 h (by decide)).elim, fun h => (pre0 h (by decide)).elim, fun h => (pre0 h (by decide)).elim, fun h => (pre0 h (by decide)).elim, fun h => (pre0 h (by decide)).elim, fun h => (pre0 h (by decide)).elim, fun h => (pre0 h (by decide)).elim, fun h => (pre0 h (by decide)).elim, fun h => (pre0 h (by decide)).elim, fun h => (pre0 h (by decide)).elim, fun h => (pre0 h (by decide)).elim, fun h => (pre0 h (by decide)).elim, fun h => (pre0 h (by decide)).elim, fun h => (pre0 h (by decide)).elim, fun h => (pre0 h (by decide)).elim, fun h => (pre0 h (by decide)).elim, fun h => (pre0 h (by decide)).elim, fun h => (pre0 h (by decide)).elim, fun h => (pre0 h (by decide)).elim, fun h => (pre0 h (by decide)).elim, fun h => (pre0 h (by decide)).elim, fun h => (pre0 h (by decide)).elim⟩
  | n + 1 => by
    have H := HH_all hL n
    exact ⟨T22 (p := pn L n) hL, T37 (p := pn L n) hL, T44 (p := pn L n) hL, T40 (p := pn L n) hL, T58 hL H, T34 hL H, T35 hL H, T36 hL H, T46 hL H, T49 hL H, T38 hL H, T47_46 hL H, T50 hL H, T39 hL H, T88 hL H, T87 hL H, T86 hL H, T69_4 hL H, T83 hL H, T69_3 hL H, T77 hL H, T69_2 hL H, T72 hL H, T69_1 hL H, T70 hL H, T69_0 hL H, T64 hL H, T89 hL H, T47_89 hL H, T65 hL H, T67 hL H, T66 hL H, T60 hL H, T24 hL H, T13 hL H⟩
end Go.Proofs.YtachednafdmmaaaDoor.AI
