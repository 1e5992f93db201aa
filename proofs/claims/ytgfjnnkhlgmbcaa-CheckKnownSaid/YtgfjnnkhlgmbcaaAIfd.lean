/- The abstract interpreter, fast runs: lists, values, the heap. -/
import Derived.Test.YtgfjnnkhlgmbcaaAIfb
namespace Go.Proofs.Ytgfjnnkhlgmbcaa.AI
open Go
set_option linter.unusedVariables false
set_option linter.unusedSimpArgs false

/-- The heaps: what the fast form knows the other knows too. -/
def SimH (f : FH) (h : AH) : Prop := f.n = h.next ∧ ∀ (b : Nat) (x : Blk), QH.get f.m b = some x → h.get b = some x

variable {α : Type}

theorem condK_some {b : Bool} {k : O1} {r : Value} (h : condK b k = some r) : b = true ∧ k = some r := by
  cases b with
  | false => cases h
  | true => exact ⟨rfl, h⟩
theorem tfK_eq (b : Bool) (t f : O1) : tfK b t f = bif b then t else f := by cases b <;> rfl
theorem forceN_eq (n : Nat) (k : Nat → O1) : forceN n k = k n := by cases n <;> rfl
theorem forceI_eq (i : Int) (k : Int → O1) : forceI i k = k i := by cases i <;> simp only [forceI, forceN_eq]
theorem lenF_eq (l : List α) : lenF l = l.length := by
  induction l with
  | nil => rfl
  | cons a l ih => show Nat.succ (lenF l) = _; rw [ih]; rfl
theorem allF_eq (l : List Value) : allF l = l.all one1 := by
  induction l with
  | nil => rfl
  | cons a l ih =>
    show Bool.rec (motive := fun _ => Bool) false (allF l) (cell1 a) = _
    rw [cell1_eq, ih, List.all_cons]
    cases one1 a <;> rfl
theorem catK_eq (a b : List α) (k : List α → O1) : catK a b k = k (a ++ b) := by
  induction a generalizing k with
  | nil => rfl
  | cons x a ih => show catK a b (fun l => k (x :: l)) = _; rw [ih]; rfl
theorem nthK_some {l : List α} : ∀ {n : Nat} {k : α → O1} {r : Value}, nthK l n k = some r → ∃ x, l[n]? = some x ∧ k x = some r := by
  induction l with
  | nil => intro n k r h; cases h
  | cons a l ih =>
    intro n k r h
    cases n with
    | zero => exact ⟨a, rfl, h⟩
    | succ n =>
      have h : nthK l n k = some r := h
      obtain ⟨x, h1, h2⟩ := ih h
      exact ⟨x, by simpa using h1, h2⟩
theorem takeK_some : ∀ {n : Nat} {l : List α} {k : List α → O1} {r : Value}, takeK n l k = some r → n ≤ l.length ∧ k (l.take n) = some r := by
  intro n
  induction n with
  | zero => intro l k r h; exact ⟨Nat.zero_le _, by rw [List.take_zero]; exact h⟩
  | succ n ih =>
    intro l k r h
    cases l with
    | nil => cases h
    | cons a l =>
      have h : takeK n l (fun l' => k (a :: l')) = some r := h
      obtain ⟨h1, h2⟩ := ih h
      exact ⟨Nat.succ_le_succ h1, h2⟩
theorem dropK_some : ∀ {n : Nat} {l : List α} {k : List α → O1} {r : Value}, dropK n l k = some r → n ≤ l.length ∧ k (l.drop n) = some r := by
  intro n
  induction n with
  | zero => intro l k r h; exact ⟨Nat.zero_le _, h⟩
  | succ n ih =>
    intro l k r h
    cases l with
    | nil => cases h
    | cons a l =>
      have h : dropK n l k = some r := h
      obtain ⟨h1, h2⟩ := ih h
      exact ⟨Nat.succ_le_succ h1, h2⟩
theorem putL_some : ∀ {vs cs : List Value} {k : List Value → O1} {r : Value}, putL vs cs k = some r → vs.length ≤ cs.length ∧ k (vs ++ cs.drop vs.length) = some r := by
  intro vs
  induction vs with
  | nil => intro cs k r h; exact ⟨Nat.zero_le _, h⟩
  | cons v vs ih =>
    intro cs k r h
    cases cs with
    | nil => cases h
    | cons a l =>
      have h : putL vs l (fun r' => k (v :: r')) = some r := h
      obtain ⟨h1, h2⟩ := ih h
      exact ⟨Nat.succ_le_succ h1, h2⟩
theorem spliceK_some : ∀ {off : Nat} {vs cs : List Value} {k : List Value → O1} {r : Value}, spliceK off vs cs k = some r → off + vs.length ≤ cs.length ∧ k (splice cs off vs) = some r := by
  intro off
  induction off with
  | zero =>
    intro vs cs k r h
    have h : putL vs cs k = some r := h
    obtain ⟨h1, h2⟩ := putL_some h
    refine ⟨by omega, ?_⟩
    unfold splice
    rw [List.take_zero, Nat.zero_add]
    exact h2
  | succ off ih =>
    intro vs cs k r h
    cases cs with
    | nil => cases h
    | cons a l =>
      have h : spliceK off vs l (fun r' => k (a :: r')) = some r := h
      obtain ⟨h1, h2⟩ := ih h
      refine ⟨by simp only [List.length_cons]; omega, ?_⟩
      unfold splice at h2 ⊢
      rw [List.take_succ_cons, show off + 1 + vs.length = (off + vs.length) + 1 by omega, List.drop_succ_cons]
      exact h2

-- VALUES
theorem ptrK_some {v : Value} {k : Nat → Nat → O1} {r : Value} (h : ptrK v k = some r) : ∃ b off, v = .pointer (some ⟨b, off, none⟩) ∧ k b off = some r := by
  cases v with
  | pointer a =>
    cases a with
    | none => cases h
    | some p =>
      obtain ⟨b, off, sp⟩ := p
      cases sp with
      | none => exact ⟨b, off, rfl, h⟩
      | some _ => cases h
  | _ => cases h
theorem slcK_some {v : Value} {nl : Nat → Nat → O1} {k : Nat → Nat → Nat → Nat → O1} {r : Value} (h : slcK v nl k = some r) :
    (∃ n c, v = .slice none n c ∧ nl n c = some r) ∨ ∃ b off n c, v = .slice (some ⟨b, off, none⟩) n c ∧ k b off n c = some r := by
  cases v with
  | slice a n c =>
    cases a with
    | none => exact .inl ⟨n, c, rfl, h⟩
    | some p =>
      obtain ⟨b, off, sp⟩ := p
      cases sp with
      | none => exact .inr ⟨b, off, n, c, rfl, h⟩
      | some _ => cases h
  | _ => cases h
theorem natK_some {v : Value} {k : Nat → O1} {r : Value} (h : natK v k = some r) : ∃ kd n, v = .int kd (.ofNat n) ∧ k n = some r := by
  cases v with
  | int kd i =>
    cases i with
    | ofNat n => exact ⟨kd, n, rfl, h⟩
    | negSucc n => cases h
  | _ => cases h
theorem intvK_some {v : Value} {k : IntKind → Int → O1} {r : Value} (h : intvK v k = some r) : ∃ kd i, v = .int kd i ∧ k kd i = some r := by
  cases v with
  | int kd i => exact ⟨kd, i, rfl, h⟩
  | _ => cases h
theorem aggK_some {v : Value} {k : List Value → O1} {r : Value} (h : aggK v k = some r) : ∃ l, v = .agg ⟨l⟩ ∧ k l = some r := by
  cases v with
  | agg a => exact ⟨a.toList, rfl, h⟩
  | _ => cases h
theorem tupK_some {v : Value} {k : List Value → O1} {r : Value} (h : tupK v k = some r) : ∃ l, v = .tuple ⟨l⟩ ∧ k l = some r := by
  cases v with
  | tuple a => exact ⟨a.toList, rfl, h⟩
  | _ => cases h
theorem boolK_some {v : Value} {t f : O1} {r : Value} (h : boolK v t f = some r) : (v = .bool true ∧ t = some r) ∨ (v = .bool false ∧ f = some r) := by
  cases v with
  | bool b => cases b with
    | true => exact .inl ⟨rfl, h⟩
    | false => exact .inr ⟨rfl, h⟩
  | _ => cases h
theorem strK_some {v : Value} {k : List UInt8 → O1} {r : Value} (h : strK v k = some r) : ∃ l, v = .string ⟨⟨l⟩⟩ ∧ k l = some r := by
  cases v with
  | string s => exact ⟨s.data.toList, rfl, h⟩
  | _ => cases h
theorem funK_some {v : Value} {k : FuncId → List Value → List Value → O1} {r : Value} (h : funK v k = some r) : ∃ g l l', v = .func (.func g) ⟨l⟩ ⟨l'⟩ ∧ k g l l' = some r := by
  cases v with
  | func fn a b => cases fn with
    | func g => exact ⟨g, a.toList, b.toList, rfl, h⟩
    | _ => cases h
  | _ => cases h
theorem guardK_some {v : Value} {t f s : O1} {r : Value} (h : guardK v t f s = some r) : (v = .bool true ∧ t = some r) ∨ (v = .bool false ∧ f = some r) ∨ ((∃ vs, v = .tuple vs) ∧ s = some r) := by
  cases v with
  | bool b => cases b with
    | true => exact .inl ⟨rfl, h⟩
    | false => exact .inr (.inl ⟨rfl, h⟩)
  | tuple vs => exact .inr (.inr ⟨⟨vs, rfl⟩, h⟩)
  | _ => cases h
theorem nilcK_some {v : Value} {k : O1} {r : Value} (h : nilcK v k = some r) : k = some r ∧ ((∃ a, v = .pointer (some a)) ∨ ∃ g a b, v = .func (.func g) a b) := by
  cases v with
  | pointer a => cases a with
    | none => cases h
    | some p => exact ⟨h, .inl ⟨p, rfl⟩⟩
  | func fn a b => cases fn with
    | func g => exact ⟨h, .inr ⟨g, a, b, rfl⟩⟩
    | _ => cases h
  | _ => cases h
theorem rowK_some {b : Blk} {k : Bool → Nat → List Value → O1} {r : Value} (h : rowK b k = some r) : ∃ ro z cs, b = .row ro z cs ∧ k ro z cs = some r := by
  cases b with
  | row ro z cs => exact ⟨ro, z, cs, rfl, h⟩
  | mp _ _ => cases h
theorem splitB_eq (v : Value) (k : Value → O1) : splitB v k = k v := by
  cases v with
  | bool b => cases b <;> rfl
  | _ => rfl
theorem one1_cells {v : Value} (h : cell1 v = true) : v.cells.toList = [v] := by
  cases v <;> first | rfl | cases h
theorem cellsK_some {v : Value} {n : Nat} {k : List Value → O1} {r : Value} (h : cellsK v n k = some r) : v.cells.toList.length = n ∧ k v.cells.toList = some r := by
  unfold cellsK at h
  cases hc : cell1 v with
  | true =>
    rw [hc] at h
    obtain ⟨h1, h2⟩ := condK_some h
    rw [one1_cells hc]
    exact ⟨(Nat.eq_of_beq_eq_true h1).symm, h2⟩
  | false =>
    rw [hc] at h
    obtain ⟨l, rfl, h⟩ := aggK_some h
    obtain ⟨h1, h2⟩ := condK_some h
    rw [lenF_eq] at h1
    exact ⟨Nat.eq_of_beq_eq_true h1, h2⟩

theorem u8N_eq (b : UInt8) : u8N b = b.toNat := rfl
theorem eqU_eq : ∀ (a b : List UInt8), eqU a b = (a == b) := by
  intro a
  induction a with
  | nil => intro b; cases b <;> rfl
  | cons x a ih =>
    intro b
    cases b with
    | nil => rfl
    | cons y b =>
      show Bool.rec (motive := fun _ => Bool) false (eqU a b) (Nat.beq (u8N x) (u8N y)) = _
      rw [ih, List.cons_beq_cons]
      have : Nat.beq (u8N x) (u8N y) = (x == y) := by
        rw [u8N_eq, u8N_eq]
        cases h : Nat.beq x.toNat y.toNat with
        | true => rw [UInt8.toNat_inj.1 (Nat.eq_of_beq_eq_true h)]; simp
        | false =>
          symm
          rw [beq_eq_false_iff_ne]
          intro e
          rw [e, Nat.beq_refl] at h
          cases h
      rw [this]
      cases x == y <;> rfl
theorem beq_dec (a b : Nat) : Nat.beq a b = decide (a = b) := by
  cases h : Nat.beq a b with
  | true => rw [decide_eq_true (Nat.eq_of_beq_eq_true h)]
  | false => rw [decide_eq_false (fun e => by rw [e, Nat.beq_refl] at h; cases h)]
theorem ble_dec (a b : Nat) : Nat.ble a b = decide (a ≤ b) := by
  cases h : Nat.ble a b with
  | true => rw [decide_eq_true (Nat.le_of_ble_eq_true h)]
  | false => rw [decide_eq_false (fun e => by rw [Nat.ble_eq_true_of_le e] at h; cases h)]
theorem eqI_eq (a b : Int) : eqI a b = (a == b) := by
  cases a <;> cases b
  · rename_i m n
    show Nat.beq m n = _
    rw [beq_dec]
    by_cases h : m = n
    · subst h; simp
    · rw [decide_eq_false h]
      symm
      rw [beq_eq_false_iff_ne]
      intro e
      exact h (Int.ofNat.inj e)
  · rename_i m n
    show false = _
    symm
    rw [beq_eq_false_iff_ne]
    intro e
    cases e
  · rename_i m n
    show false = _
    symm
    rw [beq_eq_false_iff_ne]
    intro e
    cases e
  · rename_i m n
    show Nat.beq m n = _
    rw [beq_dec]
    by_cases h : m = n
    · subst h; simp
    · rw [decide_eq_false h]
      symm
      rw [beq_eq_false_iff_ne]
      intro e
      exact h (Int.negSucc.inj e)
theorem leI_eq (a b : Int) : leI a b = decide (a ≤ b) := by
  cases a <;> cases b
  · rename_i m n
    show Nat.ble m n = _
    rw [ble_dec]
    exact decide_eq_decide.2 (by show _ ↔ (m : Int) ≤ (n : Int); omega)
  · rename_i m n
    exact (decide_eq_false (by show ¬ ((m : Int) ≤ Int.negSucc n); omega)).symm
  · rename_i m n
    exact (decide_eq_true (by show Int.negSucc m ≤ (n : Int); omega)).symm
  · rename_i m n
    show Nat.ble n m = _
    rw [ble_dec]
    exact decide_eq_decide.2 (by omega)
theorem kdN_inj {a b : IntKind} (h : Nat.beq (kdN a) (kdN b) = true) : a = b := by
  cases a <;> cases b <;> first | rfl | cases h

-- THE HEAP
theorem wrK_some {f : FH} {h : AH} (hh : SimH f h) {b off : Nat} {vs : List Value} {k : FH → O1} {r : Value} (hr : wrK f b off vs k = some r) (h1 : vs.all one1 = true) :
    ∃ h' f', writeA h b off vs = some h' ∧ SimH f' h' ∧ k f' = some r := by
  unfold wrK at hr
  obtain ⟨x, e1, hr⟩ := gH_some hr
  obtain ⟨ro, z, cs, rfl, hr⟩ := rowK_some hr
  cases ro with
  | true => cases hr
  | false =>
    have hr : spliceK off vs cs (fun cs' => sH b (some (.row false z cs')) f.1 fun m => k ⟨m, f.2⟩) = some r := hr
    obtain ⟨e2, hr⟩ := spliceK_some hr
    obtain ⟨m, hr, e3⟩ := sH_some hr
    have hg := hh.2 b _ e1
    refine ⟨h.put b (.row false z (splice cs off vs)), ⟨m, f.2⟩, ?_, ⟨hh.1, fun c y hy => ?_⟩, hr⟩
    · rw [writeA_def, hg]
      simp only [Nat.ble_eq_true_of_le e2, h1, Bool.and_self, cond_true]
    · rw [e3] at hy
      show (h.m.set b _).get c = some y
      rw [Tr.get_set]
      by_cases e : c = b
      · rw [if_pos e] at hy ⊢; exact hy
      · rw [if_neg e] at hy ⊢; exact hh.2 c y hy
theorem addK_some {f : FH} {h : AH} (hh : SimH f h) {x : Blk} {k : Nat → FH → O1} {r : Value} (hr : addK f x k = some r) : ∃ f', SimH f' (h.add x) ∧ k h.next f' = some r := by
  unfold addK at hr
  obtain ⟨m, hr, e⟩ := sH_some hr
  rw [forceN_eq, hh.1] at hr
  refine ⟨_, ⟨rfl, fun c y hy => ?_⟩, hr⟩
  rw [e] at hy
  show (h.m.set h.next _).get c = some y
  rw [Tr.get_set]
  rw [hh.1] at hy
  by_cases e : c = h.next
  · rw [if_pos e] at hy ⊢; exact hy
  · rw [if_neg e] at hy ⊢; exact hh.2 c y hy

end Go.Proofs.Ytgfjnnkhlgmbcaa.AI
