/- The abstract interpreter: how its values and its heap stand to the model's. -/
import Derived.Test.YtachednafdmmaaaDoorAIa
namespace Go.Proofs.YtachednafdmmaaaDoor.AI
open Go
set_option linter.unusedVariables false

/-- Where an abstract block lies: the model's block, its first cell, and how many elements' room lies behind its cells. -/
structure Loc where
  b : Nat
  o : Nat
  s : Nat

/-- Where the abstract blocks lie; and what the model's blocks hold that are never written any more. -/
structure Mu where
  loc : Nat → Loc
  fr : Nat → Option (Array Value)
instance : CoeFun Mu (fun _ => Nat → Loc) := ⟨Mu.loc⟩

/-- More is known than was. -/
structure Ext (n : Nat) (μ μ' : Mu) (X : Nat → Prop) : Prop where
  loc : ∀ i, i < n → μ' i = μ i
  fr : ∀ B C, μ.fr B = some C → μ'.fr B = some C
  new : ∀ B C, μ'.fr B = some C → μ.fr B = some C ∨ X B
theorem Ext.refl (n : Nat) (μ : Mu) {X : Nat → Prop} : Ext n μ μ X := ⟨fun _ _ => rfl, fun _ _ h => h, fun _ _ h => .inl h⟩
theorem Ext.rf (n : Nat) (μ : Mu) : Ext n μ μ (fun _ => True) := .refl _ _
theorem Ext.trans {n m : Nat} {μ μ1 μ2 : Mu} {X Y : Nat → Prop} (a : Ext n μ μ1 X) (b : Ext m μ1 μ2 Y) (h : n ≤ m) (hXY : ∀ B, Y B → X B) : Ext n μ μ2 X :=
  ⟨fun i hi => (b.loc i (Nat.lt_of_lt_of_le hi h)).trans (a.loc i hi), fun B C hB => b.fr B C (a.fr B C hB), fun B C hB => (b.new B C hB).elim (a.new B C) fun h => .inr (hXY B h)⟩
inductive VRel (μ : Mu) (n : Nat) : Value → Value → Prop where
  | gsl (l off : Nat) (ex : Bool) (cs : List Value) (a : Option Addr) (cap B o : Nat) (C : Array Value) : (ex = true → cap = l) → l ≤ cap → (∀ p, a = some p → p.spot = none) → (a = none → cap = 0) →
      (l ≠ 0 → a = some ⟨B, o + off, none⟩ ∧ μ.fr B = some C ∧ o + cs.length ≤ C.size) → (∀ (j : Nat) (x y : Value), l ≠ 0 → cs[j]? = some x → C[o + j]? = some y → VRel μ n x y) → VRel μ n (gslV l off ex cs) (.slice a l cap)
  | gptr (off : Nat) (cs : List Value) (B o : Nat) (C : Array Value) : μ.fr B = some C → o + cs.length ≤ C.size → (∀ (j : Nat) (x y : Value), cs[j]? = some x → C[o + j]? = some y → VRel μ n x y) → VRel μ n (gptrV off cs) (.pointer (some ⟨B, o + off, none⟩))
  | plain (v : Value) : plain1 v = true → VRel μ n v v
  | ptr (b o : Nat) : b < n → VRel μ n (.pointer (some ⟨b, o, none⟩)) (.pointer (some ⟨(μ b).b, (μ b).o + o, none⟩))
  | slc (b o l c : Nat) : b < n → VRel μ n (.slice (some ⟨b, o, none⟩) l c) (.slice (some ⟨(μ b).b, (μ b).o + o, none⟩) l (l + c / 2 + c % 2 * (μ b).s))
  | slc0 (b o o' : Nat) : b < n → ((μ b).s ≠ 0 → o' = (μ b).o + o) → VRel μ n (.slice (some ⟨b, o, none⟩) 0 1) (.slice (some ⟨(μ b).b, o', none⟩) 0 (μ b).s)
  | mp (b : Nat) : b < n → VRel μ n (.map (some b)) (.map (some (μ b).b))
  | func (fn : Fn) (f f' c c' : Array Value) : f.toList.length = f'.toList.length → (∀ (i : Nat) (x y : Value), f.toList[i]? = some x → f'.toList[i]? = some y → VRel μ n x y) →
      c.toList.length = c'.toList.length → (∀ (i : Nat) (x y : Value), c.toList[i]? = some x → c'.toList[i]? = some y → VRel μ n x y) → VRel μ n (.func fn f c) (.func fn f' c')
  | iface (t : TypeId) (v v' : Value) : Nat.ble gT t = false → VRel μ n v v' → VRel μ n (.iface t v) (.iface t v')
  | agg (c c' : Array Value) : c.toList.length = c'.toList.length → (∀ (i : Nat) (x y : Value), c.toList[i]? = some x → c'.toList[i]? = some y → VRel μ n x y) → VRel μ n (.agg c) (.agg c')
  | tuple (c c' : Array Value) : c.toList.length = c'.toList.length → (∀ (i : Nat) (x y : Value), c.toList[i]? = some x → c'.toList[i]? = some y → VRel μ n x y) → VRel μ n (.tuple c) (.tuple c')

def LRel (μ : Mu) (n : Nat) (xs ys : List Value) : Prop := xs.length = ys.length ∧ ∀ (i : Nat) (x y : Value), xs[i]? = some x → ys[i]? = some y → VRel μ n x y

theorem VRel.mono {μ μ' : Mu} {n n' : Nat} {X : Nat → Prop} (hm : Ext n μ μ' X) (hn : n ≤ n') {v c : Value} (h : VRel μ n v c) : VRel μ' n' v c := by
  induction h with
  | gsl l off ex cs a cap B o C he hl hs hn hB hc ih => exact .gsl l off ex cs a cap B o C he hl hs hn (fun h => ⟨(hB h).1, hm.fr B C (hB h).2.1, (hB h).2.2⟩) ih
  | gptr off cs B o C hB hl hc ih => exact .gptr off cs B o C (hm.fr B C hB) hl ih
  | plain v hv => exact .plain v hv
  | ptr b o hb => rw [← hm.loc b hb]; exact .ptr b o (by omega)
  | slc b o l c hb => rw [← hm.loc b hb]; exact .slc b o l c (by omega)
  | slc0 b o o' hb ho => rw [← hm.loc b hb] at ho ⊢; exact .slc0 b o o' (by omega) ho
  | mp b hb => rw [← hm.loc b hb]; exact .mp b (by omega)
  | func fn f f' c c' l1 h1 l2 h2 ih1 ih2 => exact .func fn f f' c c' l1 ih1 l2 ih2
  | iface t v v' ht h ih => exact .iface t v v' ht ih
  | agg c c' l h ih => exact .agg c c' l ih
  | tuple c c' l h ih => exact .tuple c c' l ih

theorem LRel.mono {μ μ' : Mu} {n n' : Nat} {X : Nat → Prop} (hm : Ext n μ μ' X) (hn : n ≤ n') {xs ys : List Value} (h : LRel μ n xs ys) : LRel μ' n' xs ys :=
  ⟨h.1, fun i x y hx hy => (h.2 i x y hx hy).mono hm hn⟩

section
variable {μ : Mu} {n : Nat}

theorem LRel.nil : LRel μ n [] [] := ⟨rfl, fun i x y hx _ => by simp at hx⟩
theorem LRel.cons {x y : Value} {xs ys : List Value} (h : VRel μ n x y) (t : LRel μ n xs ys) : LRel μ n (x :: xs) (y :: ys) := by
  refine ⟨by simp [t.1], fun i a b ha hb => ?_⟩
  cases i with
  | zero => simp at ha hb; subst ha hb; exact h
  | succ i => exact t.2 i a b (by simpa using ha) (by simpa using hb)
theorem LRel.head {x y : Value} {xs ys : List Value} (h : LRel μ n (x :: xs) (y :: ys)) : VRel μ n x y := h.2 0 x y rfl rfl
theorem LRel.tail {x y : Value} {xs ys : List Value} (h : LRel μ n (x :: xs) (y :: ys)) : LRel μ n xs ys :=
  ⟨by have := h.1; simpa using this, fun i a b ha hb => h.2 (i + 1) a b (by simpa using ha) (by simpa using hb)⟩
theorem LRel.one {x y : Value} (h : VRel μ n x y) : LRel μ n [x] [y] := .cons h .nil
theorem LRel.get {xs ys : List Value} (h : LRel μ n xs ys) {i : Nat} {x : Value} (hx : xs[i]? = some x) : ∃ y, ys[i]? = some y ∧ VRel μ n x y := by
  have hi : i < xs.length := by
    rcases Nat.lt_or_ge i xs.length with h' | h'
    · exact h'
    · rw [List.getElem?_eq_none h'] at hx; cases hx
  have hi' : i < ys.length := h.1 ▸ hi
  exact ⟨ys[i], List.getElem?_eq_getElem hi', h.2 i x _ hx (List.getElem?_eq_getElem hi')⟩
theorem LRel.append {a b c d : List Value} (h : LRel μ n a b) (k : LRel μ n c d) : LRel μ n (a ++ c) (b ++ d) := by
  refine ⟨by simp [h.1, k.1], fun i x y hx hy => ?_⟩
  have hl := h.1
  by_cases hi : i < a.length
  · rw [List.getElem?_append_left hi] at hx
    rw [List.getElem?_append_left (by omega)] at hy
    exact h.2 i x y hx hy
  · rw [List.getElem?_append_right (by omega)] at hx
    rw [List.getElem?_append_right (by omega)] at hy
    exact k.2 (i - a.length) x y hx (by rw [hl]; exact hy)
theorem LRel.take {a b : List Value} (k : Nat) (h : LRel μ n a b) : LRel μ n (a.take k) (b.take k) := by
  refine ⟨by simp [h.1], fun i x y hx hy => ?_⟩
  rw [List.getElem?_take] at hx hy
  split at hx
  · rw [if_pos (by assumption)] at hy; exact h.2 i x y hx hy
  · cases hx
theorem LRel.drop {a b : List Value} (k : Nat) (h : LRel μ n a b) : LRel μ n (a.drop k) (b.drop k) := by
  refine ⟨by simp [h.1], fun i x y hx hy => ?_⟩
  rw [List.getElem?_drop] at hx hy
  exact h.2 _ x y hx hy
theorem LRel.splice {a b c d : List Value} (k : Nat) (h : LRel μ n a b) (g : LRel μ n c d) : LRel μ n (splice a k c) (splice b k d) := by
  unfold AI.splice
  rw [← g.1]
  exact (h.take k).append (g.append (h.drop _))

theorem plain_list {cs : List Value} (h : cs.all plain1 = true) : LRel μ n cs cs := by
  refine ⟨rfl, fun i x y hx hy => ?_⟩
  rw [hx] at hy
  cases hy
  exact .plain x (List.all_eq_true.1 h x (List.mem_of_getElem? hx))

theorem VRel.plainV {v : Value} (h : AI.plainV v = true) : VRel μ n v v := by
  cases v with
  | agg cs => exact .agg cs cs rfl (plain_list h).2
  | tuple cs => exact .tuple cs cs rfl (plain_list h).2
  | iface t v =>
    have h' := Bool.and_eq_true_iff.1 h
    exact .iface t v v (by simpa using h'.1) (.plain v h'.2)
  | _ => exact .plain _ h

theorem VRel.cells {v c : Value} (h : VRel μ n v c) : LRel μ n v.cells.toList c.cells.toList := by
  cases h with
  | plain v hv =>
    cases v <;> first
      | (simp [plain1] at hv; done)
      | exact .one (.plain _ hv)
  | gsl l off ex cs a cap B o C he hl hs hn hB hc => exact .one (.gsl l off ex cs a cap B o C he hl hs hn hB hc)
  | gptr off cs B o C hB hl hc => exact .one (.gptr off cs B o C hB hl hc)
  | agg c c' l hh => exact ⟨l, hh⟩
  | ptr b o hb => exact .one (.ptr b o hb)
  | slc b o l c hb => exact .one (.slc b o l c hb)
  | slc0 b o o' hb ho => exact .one (.slc0 b o o' hb ho)
  | mp b hb => exact .one (.mp b hb)
  | func fn f f' c c' l1 h1 l2 h2 => exact .one (.func fn f f' c c' l1 h1 l2 h2)
  | iface t v v' ht h => exact .one (.iface t v v' ht h)
  | tuple c c' l hh => exact .one (.tuple c c' l hh)

theorem VRel.one1 {v c : Value} (h : VRel μ n v c) (ho : AI.one1 v = true) : c.oneCell' = true := by
  cases h with
  | plain v hv => cases v <;> first | rfl | (simp [plain1] at hv; done)
  | agg c c' l hh => cases ho
  | tuple c c' l hh => cases ho
  | _ => rfl

theorem LRel.one1 {xs ys : List Value} (h : LRel μ n xs ys) (ho : xs.all AI.one1 = true) : ∀ y ∈ ys, y.oneCell' = true := by
  intro y hy
  obtain ⟨i, hi⟩ := List.mem_iff_getElem?.1 hy
  have hlt : i < ys.length := by
    rcases Nat.lt_or_ge i ys.length with h' | h'
    · exact h'
    · rw [List.getElem?_eq_none h'] at hi; cases hi
  have hi2 : i < xs.length := by rw [h.1]; exact hlt
  have hx : xs[i]? = some xs[i] := List.getElem?_eq_getElem hi2
  exact (h.2 i _ y hx hi).one1 (List.all_eq_true.1 ho _ (List.getElem_mem _))

-- what a related value looks like
theorem VRel.int {k : IntKind} {x : Int} {c : Value} (h : VRel μ n (.int k x) c) : c = .int k x := by cases h; rfl
theorem VRel.bool {b : Bool} {c : Value} (h : VRel μ n (.bool b) c) : c = .bool b := by cases h; rfl
theorem VRel.string {s : ByteArray} {c : Value} (h : VRel μ n (.string s) c) : c = .string s := by cases h; rfl
theorem VRel.pointer {b o : Nat} {c : Value} (h : VRel μ n (.pointer (some ⟨b, o, none⟩)) c) : b < n ∧ c = .pointer (some ⟨(μ b).b, (μ b).o + o, none⟩) := by
  cases h with
  | plain v hv => simp [plain1] at hv
  | ptr b o hb => exact ⟨hb, rfl⟩
theorem VRel.nilPointer {c : Value} (h : VRel μ n (.pointer none) c) : c = .pointer none := by cases h; rfl
theorem VRel.nilSlice {l k : Nat} {c : Value} (h : VRel μ n (.slice none l k) c) : c = .slice none 0 0 ∧ l = 0 ∧ k = 0 := by
  cases h with
  | plain v hv =>
    simp only [plain1, Bool.and_eq_true] at hv
    have h1 := Nat.eq_of_beq_eq_true hv.1
    have h2 := Nat.eq_of_beq_eq_true hv.2
    subst h1 h2
    exact ⟨rfl, rfl, rfl⟩
theorem VRel.slice {b o l k : Nat} {c : Value} (h : VRel μ n (.slice (some ⟨b, o, none⟩) l k) c) :
    b < n ∧ ∃ o', c = .slice (some ⟨(μ b).b, o', none⟩) l (l + k / 2 + k % 2 * (μ b).s) ∧ (o' = (μ b).o + o ∨ (l = 0 ∧ k = 1 ∧ (μ b).s = 0)) := by
  cases h with
  | plain v hv => simp [plain1] at hv
  | slc b o l c hb => exact ⟨hb, _, rfl, .inl rfl⟩
  | slc0 b o o' hb ho =>
    refine ⟨hb, o', by simp, ?_⟩
    by_cases hs : (μ b).s = 0
    · exact .inr ⟨rfl, rfl, hs⟩
    · exact .inl (ho hs)
theorem VRel.aggI {xs : Array Value} {c : Value} (h : VRel μ n (.agg xs) c) : ∃ ys : Array Value, c = .agg ys ∧ LRel μ n xs.toList ys.toList := by
  cases h with
  | plain v hv => simp [plain1] at hv
  | agg c c' l hh => exact ⟨c', rfl, l, hh⟩
theorem VRel.tupleI {xs : Array Value} {c : Value} (h : VRel μ n (.tuple xs) c) : ∃ ys : Array Value, c = .tuple ys ∧ LRel μ n xs.toList ys.toList := by
  cases h with
  | plain v hv => simp [plain1] at hv
  | tuple c c' l hh => exact ⟨c', rfl, l, hh⟩
theorem VRel.funcI {fn : Fn} {f a : Array Value} {c : Value} (h : VRel μ n (.func fn f a) c) : ∃ f' a' : Array Value, c = .func fn f' a' ∧ LRel μ n f.toList f'.toList ∧ LRel μ n a.toList a'.toList := by
  cases h with
  | plain v hv => simp [plain1] at hv
  | func fn f f' c c' l1 h1 l2 h2 => exact ⟨f', c', rfl, ⟨l1, h1⟩, ⟨l2, h2⟩⟩
theorem VRel.nilFunc {c : Value} (h : VRel μ n .nilFunc c) : c = .nilFunc := by cases h; rfl
theorem VRel.nilIface {c : Value} (h : VRel μ n .nilIface c) : c = .nilIface := by cases h; rfl
theorem VRel.ifaceI {t : TypeId} {v c : Value} (h : VRel μ n (.iface t v) c) (ht : Nat.ble gT t = false) : ∃ v', c = .iface t v' ∧ VRel μ n v v' := by
  cases h with
  | plain v hv => simp [plain1] at hv
  | iface t v v' _ h => exact ⟨v', rfl, h⟩
  | gsl => exact absurd ht (by decide)
  | gptr => exact absurd ht (by decide)
theorem VRel.nilMap {c : Value} (h : VRel μ n (.map none) c) : c = .map none := by cases h; rfl
theorem VRel.mapI {b : Nat} {c : Value} (h : VRel μ n (.map (some b)) c) : b < n ∧ c = .map (some (μ b).b) := by
  cases h with
  | plain v hv => simp [plain1] at hv
  | mp b hb => exact ⟨hb, rfl⟩
theorem VRel.undef : VRel μ n Go.undef Go.undef := .tuple #[] #[] rfl (fun i x y hx _ => by simp at hx)
end

theorem gslV_inj {l off l' off' : Nat} {ex ex' : Bool} {cs cs' : List Value} (h : gslV l off ex cs = gslV l' off' ex' cs') : l = l' ∧ off = off' ∧ ex = ex' ∧ cs = cs' := by
  unfold gslV at h
  injection h with _ h
  injection h with h
  injection h with h
  injection h with h1 h2
  injection h1 with _ h3 h4
  injection h2 with h5 h6
  injection h5 with h5
  exact ⟨h3, h4, h5, h6⟩
theorem gptrV_inj {off off' : Nat} {cs cs' : List Value} (h : gptrV off cs = gptrV off' cs') : off = off' ∧ cs = cs' := by
  unfold gptrV at h
  injection h with _ h
  injection h with h
  injection h with h
  injection h with h1 h2
  injection h1 with _ _ h4
  exact ⟨h4, h2⟩
theorem VRel.gslI {μ : Mu} {n : Nat} {l off : Nat} {ex : Bool} {cs : List Value} {c : Value} (h : VRel μ n (gslV l off ex cs) c) : ∃ a cap B o C, c = .slice a l cap ∧ (ex = true → cap = l) ∧ l ≤ cap ∧ (∀ p, a = some p → p.spot = none) ∧ (a = none → cap = 0) ∧
    (l ≠ 0 → a = some ⟨B, o + off, none⟩ ∧ μ.fr B = some C ∧ o + cs.length ≤ C.size) ∧ (∀ (j : Nat) (x y : Value), l ≠ 0 → cs[j]? = some x → C[o + j]? = some y → VRel μ n x y) := by
  generalize hv : gslV l off ex cs = v at h
  cases h with
  | gsl l' off' ex' cs' a cap B o C h1 h2 h3 h4 h5 h6 =>
    obtain ⟨rfl, rfl, rfl, rfl⟩ := gslV_inj hv
    exact ⟨a, cap, B, o, C, rfl, h1, h2, h3, h4, h5, h6⟩
  | gptr => unfold gslV gptrV at hv; injection hv with h; exact absurd h (by decide)
  | iface t v v' ht hv' => unfold gslV at hv; injection hv with h; subst h; exact absurd ht (by decide)
  | plain v hp => subst hv; simp [gslV, plain1] at hp
  | _ => simp [gslV] at hv
theorem VRel.gptrI {μ : Mu} {n : Nat} {off : Nat} {cs : List Value} {c : Value} (h : VRel μ n (gptrV off cs) c) : ∃ B o C, c = .pointer (some ⟨B, o + off, none⟩) ∧ μ.fr B = some C ∧ o + cs.length ≤ C.size ∧ (∀ (j : Nat) (x y : Value), cs[j]? = some x → C[o + j]? = some y → VRel μ n x y) := by
  generalize hv : gptrV off cs = v at h
  cases h with
  | gptr off' cs' B o C h1 h2 h3 =>
    obtain ⟨rfl, rfl⟩ := gptrV_inj hv
    exact ⟨B, o, C, rfl, h1, h2, h3⟩
  | gsl => unfold gslV gptrV at hv; injection hv with h; exact absurd h (by decide)
  | iface t v v' ht hv' => unfold gptrV at hv; injection hv with h; subst h; exact absurd ht (by decide)
  | plain v hp => subst hv; simp [gptrV, plain1] at hp
  | _ => simp [gptrV] at hv

/-- Values that name no block of one's own. -/
inductive GVal : Value → Prop where
  | plain (v : Value) : plain1 v = true → GVal v
  | gsl (l off : Nat) (ex : Bool) (cs : List Value) : (∀ x ∈ cs, GVal x) → GVal (gslV l off ex cs)
  | gptr (off : Nat) (cs : List Value) : (∀ x ∈ cs, GVal x) → GVal (gptrV off cs)
  | agg (c : Array Value) : (∀ x ∈ c.toList, GVal x) → GVal (.agg c)
  | tuple (c : Array Value) : (∀ x ∈ c.toList, GVal x) → GVal (.tuple c)
  | iface (t : TypeId) (v : Value) : Nat.ble gT t = false → GVal v → GVal (.iface t v)
theorem VRel.plain_eq' {μ : Mu} {n : Nat} {v c : Value} (h : VRel μ n v c) (hp : plain1 v = true) : c = v := by
  cases h with
  | plain v hv => rfl
  | gsl => exact absurd hp (by simp [gslV, plain1])
  | gptr => exact absurd hp (by simp [gptrV, plain1])
  | _ => first | (simp [plain1] at hp; done) | rfl
theorem GVal.vrel {μ μ' : Mu} {n n' : Nat} (hs : ∀ B C, μ.fr B = some C → μ'.fr B = some C) {v : Value} (g : GVal v) : ∀ {c : Value}, VRel μ n v c → VRel μ' n' v c := by
  induction g with
  | plain v hv => intro c h; rw [h.plain_eq' hv]; exact .plain v hv
  | gsl l off ex cs hc ih =>
    intro c h
    obtain ⟨a, cap, B, o, C, rfl, h1, h2, h3, h4, h5, h6⟩ := h.gslI
    exact .gsl l off ex cs a cap B o C h1 h2 h3 h4 (fun hl => ⟨(h5 hl).1, hs B C (h5 hl).2.1, (h5 hl).2.2⟩) fun j x y hl hx hy => ih x (List.mem_of_getElem? hx) (h6 j x y hl hx hy)
  | gptr off cs hc ih =>
    intro c h
    obtain ⟨B, o, C, rfl, h1, h2, h3⟩ := h.gptrI
    exact .gptr off cs B o C (hs B C h1) h2 fun j x y hx hy => ih x (List.mem_of_getElem? hx) (h3 j x y hx hy)
  | agg k hc ih =>
    intro c h
    obtain ⟨ys, rfl, hl⟩ := h.aggI
    exact .agg k ys hl.1 fun i x y hx hy => ih x (List.mem_of_getElem? hx) (hl.2 i x y hx hy)
  | tuple k hc ih =>
    intro c h
    obtain ⟨ys, rfl, hl⟩ := h.tupleI
    exact .tuple k ys hl.1 fun i x y hx hy => ih x (List.mem_of_getElem? hx) (hl.2 i x y hx hy)
  | iface t v ht hv ih =>
    intro c h
    obtain ⟨v', rfl, hl⟩ := h.ifaceI ht
    exact .iface t v v' ht (ih hl)
theorem GVal.plainV {v : Value} (h : AI.plainV v = true) : GVal v := by
  cases v with
  | agg cs => exact .agg cs fun x hx => .plain x (List.all_eq_true.1 h x hx)
  | tuple cs => exact .tuple cs fun x hx => .plain x (List.all_eq_true.1 h x hx)
  | iface t v =>
    have h' := Bool.and_eq_true_iff.1 h
    exact .iface t v (by simpa using h'.1) (.plain v h'.2)
  | _ => exact .plain _ h

/-- The cells that a pointer into such a row reads. -/
theorem ghost_cell {μ : Mu} {n : Nat} {B o : Nat} {C : Array Value} {cs : List Value} (hl : o + cs.length ≤ C.size) (hc : ∀ (j : Nat) (x y : Value), cs[j]? = some x → C[o + j]? = some y → VRel μ n x y) {j : Nat} {x : Value} (hx : cs[j]? = some x) :
    ∃ y, C[o + j]? = some y ∧ VRel μ n x y := by
  have hj : j < cs.length := (List.getElem?_eq_some_iff.1 hx).1
  have hg : C[o + j]? = some C[o + j] := Array.getElem?_eq_getElem (by omega)
  exact ⟨_, hg, hc j x _ hx hg⟩

/-- A row of the abstract heap in the model's. -/
structure RowAt (μ : Mu) (n : Nat) (w : World) (l : Loc) (ro : Bool) (z : Nat) (cs : List Value) (C : Array Value) (e : TypeId) (fz : Nat × Nat) : Prop where
  at_ : w.heap[l.b]? = some (.cells C e fz)
  fits : l.o + cs.length + l.s * z ≤ C.size
  cells : ∀ (j : Nat) (v : Value), cs[j]? = some v → ∃ c, C[l.o + j]? = some c ∧ VRel μ n v c
  fr : ro = false → fz.1 = fz.2 ∨ C.size ≤ fz.1
  ex : ro = true → z = 7777 → C.size = l.o + cs.length

theorem RowAt.free {μ : Mu} {n : Nat} {w : World} {l : Loc} {ro : Bool} {z : Nat} {cs : List Value} {C : Array Value} {e : TypeId} {fz : Nat × Nat} (r : RowAt μ n w l ro z cs C e fz) (h : ro = false) :
    ∀ j : Nat, l.o ≤ j → j < l.o + cs.length + l.s * z → ¬ (fz.1 ≤ j ∧ j < fz.2) := fun j _ h2 hh => by
  have := r.fits
  rcases r.fr h with h3 | h3 <;> omega

def BlkAt (μ : Mu) (n : Nat) (w : World) (l : Loc) : Blk → Prop
  | .row ro z cs => ∃ C e fz, RowAt μ n w l ro z cs C e fz
  | .mp _ es => ∃ (E : Array MapEntry) (clock : Nat), w.heap[l.b]? = some (.map E clock) ∧ LRel μ n (es.map (·.1)) (E.toList.map (·.key)) ∧ LRel μ n (es.map (·.2)) (E.toList.map (·.val))

/-- The model's blocks that may be written. -/
def Wr (μ : Mu) (h : AH) (B : Nat) : Prop := ∃ (i : Nat) (b : Blk), h.get i = some b ∧ b.ro = false ∧ (μ i).b = B

structure HRel0 (gl : Nat → Option Nat) (μ : Mu) (h : AH) (w : World) : Prop where
  lt : ∀ (i : Nat) (b : Blk), h.get i = some b → i < h.next
  blk : ∀ (i : Nat) (b : Blk), h.get i = some b → BlkAt μ h.next w (μ i) b
  sep : ∀ (i j : Nat) (bi bj : Blk), h.get i = some bi → h.get j = some bj → i ≠ j → bi.ro = false → (μ i).b ≠ (μ j).b
  glob : ∀ (g i : Nat), gl g = some i → i < h.next ∧ (μ i).b = g ∧ (μ i).o = 0

structure HRel (gl : Nat → Option Nat) (μ : Mu) (h : AH) (w : World) : Prop extends HRel0 gl μ h w where
  fz : ∀ B C, μ.fr B = some C → (∃ e fz, w.heap[B]? = some (.cells C e fz)) ∧ ¬ Wr μ h B

/-- What a run leaves as it was. -/
structure Fr (μ : Mu) (h : AH) (w : World) (μ' : Mu) (h' : AH) (w' : World) : Prop where
  os : w'.os = w.os
  tape : w'.tape = w.tape
  output : w'.output = w.output
  size : w.heap.size ≤ w'.heap.size
  next : h.next ≤ h'.next
  ext : Ext h.next μ μ' (fun B => Wr μ h B ∨ w.heap.size ≤ B)
  keep : ∀ B, B < w.heap.size → ¬ Wr μ h B → w'.heap[B]? = w.heap[B]?
  own : ∀ B, Wr μ' h' B → Wr μ h B ∨ w.heap.size ≤ B
  ro : ∀ (i : Nat) (b : Blk), h.get i = some b → b.ro = true → h'.get i = some b
  ron : ∀ (i : Nat) (b : Blk), h'.get i = some b → b.ro = true → h.get i = some b

theorem Fr.refl (μ : Mu) (h : AH) (w : World) : Fr μ h w μ h w :=
  ⟨rfl, rfl, rfl, Nat.le_refl _, Nat.le_refl _, .refl _ _, fun _ _ _ => rfl, fun _ hB => .inl hB, fun _ _ h _ => h, fun _ _ h _ => h⟩

theorem Fr.trans {μ μ1 μ2 : Mu} {h h1 h2 : AH} {w w1 w2 : World} (a : Fr μ h w μ1 h1 w1) (b : Fr μ1 h1 w1 μ2 h2 w2) : Fr μ h w μ2 h2 w2 where
  os := b.os.trans a.os
  tape := b.tape.trans a.tape
  output := b.output.trans a.output
  size := Nat.le_trans a.size b.size
  next := Nat.le_trans a.next b.next
  ext := a.ext.trans b.ext a.next fun B hB => hB.elim (fun hw => a.own B hw) (fun hs => .inr (Nat.le_trans a.size hs))
  keep := fun B hB hn => by
    have hn1 : ¬ Wr μ1 h1 B := fun hw => (a.own B hw).elim hn (fun hs => by omega)
    exact (b.keep B (Nat.lt_of_lt_of_le hB a.size) hn1).trans (a.keep B hB hn)
  own := fun B hB => (b.own B hB).elim (a.own B) (fun hs => .inr (Nat.le_trans a.size hs))
  ro := fun i b' hi hr => b.ro i b' (a.ro i b' hi hr) hr
  ron := fun i b' hi hr => a.ron i b' (b.ron i b' hi hr) hr

/-- What is not written any more stays. -/
theorem HRel.step {gl : Nat → Option Nat} {μ μ' : Mu} {h h' : AH} {w w' : World} (a : HRel gl μ h w) (b : HRel0 gl μ' h' w') (f : Fr μ h w μ' h' w') (hs : ∀ B C, μ'.fr B = some C → μ.fr B = some C) : HRel gl μ' h' w' ∧ Fr μ h w μ' h' w' := by
  refine ⟨⟨b, fun B C hB => ?_⟩, f⟩
  obtain ⟨⟨e, fz, h1⟩, h2⟩ := a.fz B C (hs B C hB)
  have hlt : B < w.heap.size := (Array.getElem?_eq_some_iff.1 h1).1
  exact ⟨⟨e, fz, by rw [f.keep B hlt h2]; exact h1⟩, fun hw => (f.own B hw).elim h2 (fun hge => by omega)⟩

/-- Draws alone change nothing. -/
theorem Fr.drew {μ μ1 : Mu} {h h1 : AH} {w w1 : World} (a : Fr μ h w.drew μ1 h1 w1) : Fr μ h w μ1 h1 w1 :=
  ⟨a.os, a.tape, a.output, a.size, a.next, a.ext, a.keep, a.own, a.ro, a.ron⟩
theorem HRel.drew {gl : Nat → Option Nat} {μ : Mu} {h : AH} {w : World} (a : HRel gl μ h w) : HRel gl μ h w.drew := by
  refine ⟨⟨a.lt, fun i b hb => ?_, a.sep, a.glob⟩, a.fz⟩
  have := a.blk i b hb
  cases b with
  | row ro z cs => obtain ⟨C, e, fz, hr⟩ := this; exact ⟨C, e, fz, ⟨hr.at_, hr.fits, hr.cells, hr.fr, hr.ex⟩⟩
  | mp ro es => exact this

theorem AH.get_add (h : AH) (b : Blk) (i : Nat) : (h.add b).get i = if i = h.next then some b else h.get i := Tr.get_set _ _ _ _
theorem AH.get_put (h : AH) (j : Nat) (b : Blk) (i : Nat) : (h.put j b).get i = if i = j then some b else h.get i := Tr.get_set _ _ _ _
theorem AH.get_kill (h : AH) (j i : Nat) : (h.kill j).get i = if i = j then none else h.get i := Tr.get_set _ _ _ _
theorem AH.next_add (h : AH) (b : Blk) : (h.add b).next = h.next + 1 := rfl
theorem AH.next_put (h : AH) (j : Nat) (b : Blk) : (h.put j b).next = h.next := rfl
theorem AH.next_kill (h : AH) (j : Nat) : (h.kill j).next = h.next := rfl

/-- A block in a world in which that block is the same. -/
theorem BlkAt.same {μ μ' : Mu} {n n' : Nat} {w w' : World} {l : Loc} {b : Blk} {X : Nat → Prop} (hm : Ext n μ μ' X) (hn : n ≤ n') (hw : w'.heap[l.b]? = w.heap[l.b]?) (h : BlkAt μ n w l b) : BlkAt μ' n' w' l b := by
  cases b with
  | row ro z cs =>
    obtain ⟨C, e, fz, hr⟩ := h
    exact ⟨C, e, fz, hw ▸ hr.at_, hr.fits, fun j v hv => let ⟨c, h1, h2⟩ := hr.cells j v hv; ⟨c, h1, h2.mono hm hn⟩, hr.fr, hr.ex⟩
  | mp ro es =>
    obtain ⟨E, clock, h1, h2, h3⟩ := h
    exact ⟨E, clock, hw ▸ h1, h2.mono hm hn, h3.mono hm hn⟩

theorem BlkAt.lt {μ : Mu} {n : Nat} {w : World} {l : Loc} {b : Blk} (h : BlkAt μ n w l b) : l.b < w.heap.size := by
  have : ∃ o, w.heap[l.b]? = some o := by
    cases b with
    | row ro z cs => obtain ⟨C, e, fz, hr⟩ := h; exact ⟨_, hr.at_⟩
    | mp ro es => obtain ⟨E, clock, h1, _⟩ := h; exact ⟨_, h1⟩
  obtain ⟨o, ho⟩ := this
  exact (Array.getElem?_eq_some_iff.1 ho).1

def upd (μ : Mu) (i : Nat) (l : Loc) : Mu := ⟨fun j => if j = i then l else μ j, μ.fr⟩
theorem Ext.upd (μ : Mu) (n : Nat) (l : Loc) {X : Nat → Prop} : Ext n μ (AI.upd μ n l) X := ⟨fun i hi => if_neg (Nat.ne_of_lt hi), fun _ _ h => h, fun _ _ h => .inl h⟩
theorem upd_same (μ : Mu) (i : Nat) (l : Loc) : upd μ i l i = l := if_pos rfl
/-- A new row. -/
theorem HRel.alloc {gl : Nat → Option Nat} {μ : Mu} {h : AH} {w : World} (a : HRel gl μ h w) (e : TypeId) (fz : Nat × Nat) (z s : Nat) (cs : List Value) (C : Array Value)
    (hf : cs.length + s * z ≤ C.size) (hc : ∀ (j : Nat) (v : Value), cs[j]? = some v → ∃ c, C[j]? = some c ∧ VRel μ h.next v c) (hfz : fz.1 = fz.2 ∨ C.size ≤ fz.1) :
    HRel gl (upd μ h.next ⟨w.heap.size, 0, s⟩) (h.add (.row false z cs)) (w.alloc (.cells C e fz)) ∧ Fr μ h w (upd μ h.next ⟨w.heap.size, 0, s⟩) (h.add (.row false z cs)) (w.alloc (.cells C e fz)) := by
  have hext : Ext h.next μ (upd μ h.next ⟨w.heap.size, 0, s⟩) (fun _ => True) := .upd _ _ _
  have hold : ∀ k, k < w.heap.size → (w.alloc (.cells C e fz)).heap[k]? = w.heap[k]? := fun k hk => by
    show (w.heap.push _)[k]? = _
    rw [Array.getElem?_push, if_neg (by omega)]
  have hnew : (w.alloc (.cells C e fz)).heap[w.heap.size]? = some (.cells C e fz) := by
    show (w.heap.push _)[w.heap.size]? = _
    rw [Array.getElem?_push, if_pos rfl]
  refine a.step ⟨fun i b hb => ?_, fun i b hb => ?_, fun i j bi bj hi hj hne hr => ?_, fun g i hg => ?_⟩ ⟨rfl, rfl, rfl, by rw [World.size_alloc]; omega, Nat.le_succ _, .upd _ _ _, fun B hB _ => hold B hB, fun B hB => ?_, fun i b hb hr => ?_, fun i b hb hr => ?_⟩ (fun _ _ h => h)
  · rw [AH.get_add] at hb
    rw [AH.next_add]
    split at hb
    · omega
    · have := a.lt i b hb; omega
  · rw [AH.get_add] at hb
    rw [AH.next_add]
    split at hb
    · rename_i hi
      cases hb
      subst hi
      rw [upd_same]
      refine ⟨C, e, fz, hnew, by simpa using hf, fun j v hv => ?_, fun _ => hfz, fun h => by cases h⟩
      · obtain ⟨c, h1, h2⟩ := hc j v hv
        exact ⟨c, by simpa using h1, h2.mono hext (Nat.le_succ _)⟩
    · rename_i hi
      have hlt := a.lt i b hb
      rw [hext.loc i hlt]
      exact (a.blk i b hb).same hext (Nat.le_succ _) (hold _ (a.blk i b hb).lt)
  · rw [AH.get_add] at hi hj
    split at hi
    · rename_i h1
      split at hj
      · omega
      · subst h1
        rw [upd_same, hext.loc j (a.lt j bj hj)]
        exact Nat.ne_of_gt (a.blk j bj hj).lt
    · split at hj
      · rename_i h1 h2
        subst h2
        rw [upd_same, hext.loc i (a.lt i bi hi)]
        exact Nat.ne_of_lt (a.blk i bi hi).lt
      · rw [hext.loc i (a.lt i bi hi), hext.loc j (a.lt j bj hj)]
        exact a.sep i j bi bj hi hj hne hr
  · obtain ⟨h1, h2, h3⟩ := a.glob g i hg
    rw [AH.next_add, hext.loc i h1]
    exact ⟨by omega, h2, h3⟩
  · obtain ⟨i, b, hi, hr, hb⟩ := hB
    rw [AH.get_add] at hi
    split at hi
    · rename_i h1
      subst h1
      rw [upd_same] at hb
      exact .inr (Nat.le_of_eq hb)
    · rw [hext.loc i (a.lt i b hi)] at hb
      exact .inl ⟨i, b, hi, hr, hb⟩
  · rw [AH.get_add, if_neg (Nat.ne_of_lt (a.lt i b hb))]
    exact hb
  · rw [AH.get_add] at hb
    split at hb
    · cases hb; cases hr
    · exact hb

/-- A row is written over (its place stays). -/
theorem HRel.write {gl : Nat → Option Nat} {μ : Mu} {h : AH} {w w' : World} (a : HRel gl μ h w) {i z : Nat} {cs cs' : List Value} (hi : h.get i = some (.row false z cs)) (hl : cs'.length = cs.length)
    {C C' : Array Value} {e : TypeId} {fz : Nat × Nat} (hr : RowAt μ h.next w (μ i) false z cs C e fz) (hC : C'.size = C.size)
    (hw : w'.heap[(μ i).b]? = some (.cells C' e fz)) (hk : ∀ k, k ≠ (μ i).b → w'.heap[k]? = w.heap[k]?) (hs : w'.heap.size = w.heap.size) (hos : w'.os = w.os) (htp : w'.tape = w.tape) (hout : w'.output = w.output)
    (hc : ∀ (j : Nat) (v : Value), cs'[j]? = some v → ∃ c, C'[(μ i).o + j]? = some c ∧ VRel μ h.next v c) :
    HRel gl μ (h.put i (.row false z cs')) w' ∧ Fr μ h w μ (h.put i (.row false z cs')) w' := by
  have hlt := a.lt i _ hi
  refine a.step ⟨fun j b hb => ?_, fun j b hb => ?_, fun j k bj bk hj hk' hne hro => ?_, fun g j hg => a.glob g j hg⟩ ⟨hos, htp, hout, Nat.le_of_eq hs.symm, Nat.le_refl _, .refl _ _, fun B hB hn => ?_, fun B hB => ?_, fun j b hb hro => ?_, fun j b hb hro => ?_⟩ (fun _ _ h => h)
  · rw [AH.get_put] at hb
    split at hb
    · rename_i h1; rw [h1]; exact hlt
    · exact a.lt j b hb
  · rw [AH.get_put] at hb
    split at hb
    · rename_i h1
      subst h1
      cases hb
      refine ⟨C', e, fz, hw, by rw [hC, hl]; exact hr.fits, hc, fun _ => by rw [hC]; exact hr.fr rfl, fun h => by cases h⟩
    · rename_i h1
      refine (a.blk j b hb).same (Ext.rf _ _) (Nat.le_refl _) (hk _ ?_)
      exact fun heq => a.sep i j _ b hi hb (fun h => h1 h.symm) rfl heq.symm
  · rw [AH.get_put] at hj hk'
    split at hj
    · rename_i h1
      subst h1
      split at hk'
      · rename_i h2; exact absurd h2.symm hne
      · exact a.sep j k _ bk hi hk' hne rfl
    · split at hk'
      · rename_i h1 h2
        subst h2
        exact a.sep j k bj _ hj hi hne hro
      · exact a.sep j k bj bk hj hk' hne hro
  · exact hk B fun h1 => hn ⟨i, _, hi, rfl, h1.symm⟩
  · obtain ⟨j, b, hj, hro, hb⟩ := hB
    rw [AH.get_put] at hj
    split at hj
    · rename_i h1
      subst h1
      exact .inl ⟨j, _, hi, rfl, hb⟩
    · exact .inl ⟨j, b, hj, hro, hb⟩
  · rw [AH.get_put]
    split
    · rename_i h1
      subst h1
      rw [hi] at hb
      cases hb
      cases hro
    · exact hb
  · rw [AH.get_put] at hb
    split at hb
    · cases hb; cases hro
    · exact hb

/-- A row is marked behind its end. -/
theorem HRel.mark {gl : Nat → Option Nat} {μ : Mu} {h : AH} {w : World} (a : HRel gl μ h w) {i z : Nat} {cs : List Value} (hi : h.get i = some (.row false z cs)) {C : Array Value} {e : TypeId} {fz : Nat × Nat}
    (hr : RowAt μ h.next w (μ i) false z cs C e fz) (o : Nat) : HRel gl μ h (w.freeze ⟨(μ i).b, C.size, none⟩ 1) ∧ Fr μ h w μ h (w.freeze ⟨(μ i).b, C.size, none⟩ 1) := by
  have hheap : ∀ k, k ≠ (μ i).b → (w.freeze ⟨(μ i).b, C.size, none⟩ 1).heap[k]? = w.heap[k]? := fun k hk => by
    simp only [World.freeze, Nat.one_ne_zero, if_false, Array.getElem?_modify]
    rw [if_neg (fun h => hk h.symm)]
  have hsize : (w.freeze ⟨(μ i).b, C.size, none⟩ 1).heap.size = w.heap.size := by
    simp only [World.freeze, Nat.one_ne_zero, if_false, Array.size_modify]
  have hat : ∃ fz', (w.freeze ⟨(μ i).b, C.size, none⟩ 1).heap[(μ i).b]? = some (.cells C e fz') ∧ (fz'.1 = fz'.2 ∨ C.size ≤ fz'.1) := by
    simp only [World.freeze, Nat.one_ne_zero, if_false, Array.getElem?_modify, if_true, hr.at_, Option.map_some]
    obtain ⟨lo, hi'⟩ := fz
    by_cases he : lo == hi'
    · refine ⟨(C.size, C.size + 1), by simp [he], .inr (Nat.le_refl _)⟩
    · refine ⟨(min lo C.size, max hi' (C.size + 1)), by simp [he], .inr ?_⟩
      have := hr.fr rfl
      have hne : lo ≠ hi' := by simpa using he
      simp only at this
      rcases this with h1 | h1
      · exact absurd h1 hne
      · show C.size ≤ min lo C.size
        omega
  obtain ⟨fz', hat, hfz⟩ := hat
  have hmk : HRel0 gl μ h (w.freeze ⟨(μ i).b, C.size, none⟩ 1) := by
    refine ⟨a.lt, fun j b hb => ?_, a.sep, a.glob⟩
    by_cases h1 : j = i
    · subst h1
      rw [hi] at hb
      cases hb
      exact ⟨C, e, fz', hat, hr.fits, hr.cells, fun _ => hfz, fun h => by cases h⟩
    · exact (a.blk j b hb).same (Ext.rf _ _) (Nat.le_refl _) (hheap _ fun heq => a.sep i j _ b hi hb (fun h => h1 h.symm) rfl heq.symm)
  refine a.step hmk ⟨?_, ?_, ?_, Nat.le_of_eq hsize.symm, Nat.le_refl _, .refl _ _, fun B hB hn => hheap B fun h1 => hn ⟨i, _, hi, rfl, h1.symm⟩, fun B hB => .inl hB, fun j b hb hro => hb, fun j b hb hro => hb⟩ (fun _ _ h => h) <;> (simp only [World.freeze, Nat.one_ne_zero, if_false])

end Go.Proofs.YtachednafdmmaaaDoor.AI
