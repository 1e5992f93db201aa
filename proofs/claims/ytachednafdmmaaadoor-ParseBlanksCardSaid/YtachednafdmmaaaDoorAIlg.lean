/- The abstract interpreter: tables of functions whose arguments and answers name no block of one's own. -/
import Derived.Test.YtachednafdmmaaaDoorAIlf
namespace Go.Proofs.YtachednafdmmaaaDoor.AI
open Go Go.RowKit
set_option linter.unusedVariables false
set_option linter.unusedSimpArgs false

variable {P : Program} {gl : Nat → Option Nat}

/-- What some blocks of a world hold. -/
noncomputable def muS (w : World) (S : Nat → Prop) : Mu := ⟨fun _ => ⟨0, 0, 0⟩, fun B => @ite _ (S B) (Classical.propDecidable _) (frW w B) none⟩
theorem muS_some {w : World} {S : Nat → Prop} {B : Nat} {C : Array Value} : (muS w S).fr B = some C ↔ S B ∧ ∃ e fz, w.heap[B]? = some (.cells C e fz) := by
  show (@ite _ (S B) (Classical.propDecidable _) (frW w B) none) = some C ↔ _
  by_cases h : S B
  · rw [if_pos h, frW_some]; exact ⟨fun g => ⟨h, g⟩, fun g => g.2⟩
  · rw [if_neg h]; exact ⟨fun g => (by cases g), fun g => absurd g.1 h⟩

/-- A table: what a function answers, under a test. -/
abbrev TabF := FuncId → List Value → Option (Bool × Value)

/-- More is known. -/
theorem VRel.closed {μ μ' : Mu} {n : Nat} (hs : ∀ B C, μ.fr B = some C → μ'.fr B = some C) {v c : Value} (h : VRel μ 0 v c) : VRel μ' n v c :=
  h.mono (X := fun _ => True) (μ := μ) (μ' := μ') (n' := n) ⟨fun i hi => absurd hi (Nat.not_lt_zero i), hs, fun _ _ _ => .inr trivial⟩ (Nat.zero_le n)

/-- A slice that is nil, as a slice of a row that is never written. -/
def nf (v : Value) : Value := match v with
  | .slice none 0 0 => gslV 0 0 false []
  | v => exF v
theorem VRel.nf {μ : Mu} {n : Nat} {v c : Value} (h : VRel μ n v c) : VRel μ n (nf v) c := by
  unfold AI.nf
  split
  · rw [h.plain_eq' rfl]
    exact .gsl 0 0 false [] none 0 0 0 #[] (fun h => by cases h) (Nat.le_refl _) (fun p hp => by cases hp) (fun _ => rfl) (fun h => absurd rfl h) (fun j x y h => absurd rfl h)
  · exact h.exF
theorem VRel.gsl_nf {μ : Mu} {n l off : Nat} {ex : Bool} {cs : List Value} {c : Value} (h : VRel μ n (gslV l off ex cs) c) : VRel μ n (gslV l off ex (cs.map AI.nf)) c := by
  obtain ⟨a, cap, B, o, C, rfl, h1, h2, h3, h4, h5, h6⟩ := h.gslI
  refine .gsl l off ex _ a cap B o C h1 h2 h3 h4 (fun hl => ⟨(h5 hl).1, (h5 hl).2.1, by rw [List.length_map]; exact (h5 hl).2.2⟩) fun j x y hl hx hy => ?_
  rw [List.getElem?_map, Option.map_eq_some_iff] at hx
  obtain ⟨x', hx', rfl⟩ := hx
  exact (h6 j x' y hl hx' hy).nf
/-- Rows of one's own, as what they hold. -/
def gzL {R : Type} (f : Value → (Value → Option R) → Option R) : List Value → (List Value → Option R) → Option R
  | [], k => k []
  | x :: r, k => f x fun x' => gzL f r fun r' => k (x' :: r')
noncomputable def gz {R : Type} : Nat → Nat → AH → Value → (Value → Option R) → Option R
  | 0, _, _, _, _ => none
  | e + 1, d, h, v, k => match v with
    | .slice (some ⟨b, off, none⟩) l c => match h.get b with
      | some (.row _ _ cs) => match d with
        | 0 => none
        | 1 => bif tst (∀ x ∈ cs, GVal x) then k (gslV l off false cs) else none
        | d + 2 => gzL (gz e (d + 1) h) cs fun cs' => k (gslV l off false (cs'.map nf))
      | _ => none
    | .agg ⟨cs⟩ => gzL (gz e d h) cs fun cs' => k (.agg ⟨cs'⟩)
    | .tuple ⟨cs⟩ => gzL (gz e d h) cs fun cs' => k (.tuple ⟨cs'⟩)
    | .iface t v => bif Nat.ble gT t then (bif tst (GVal (.iface t v)) then k (.iface t v) else none) else (bif plain1 v then k (.iface t v) else none)
    | .func f ⟨[]⟩ ⟨[]⟩ => k (.func f ⟨[]⟩ ⟨[]⟩)
    | v => bif plain1 v then k v else none

theorem gzL_nat {R : Type} {f : Value → (Value → Option R) → Option R} {f1 : Value → (Value → Option Value) → Option Value} (hf : ∀ v k, f v k = match f1 v some with
    | some u => k u
    | none => none) {f2 : Value → (Value → Option (List Value)) → Option (List Value)} (hf2 : ∀ v k, f2 v k = match f1 v some with
    | some u => k u
    | none => none) : ∀ (l : List Value) (k : List Value → Option R), gzL f l k = match gzL f2 l some with
    | some us => k us
    | none => none := by
  intro l
  induction l with
  | nil => intro k; rfl
  | cons a l ih =>
    intro k
    simp only [gzL, hf, hf2]
    cases f1 a some with
    | none => rfl
    | some u =>
      dsimp only
      rw [ih, gzL_nat1 hf2 l fun r' => some (u :: r')]
      cases gzL f2 l some <;> rfl
where
  gzL_nat1 {f1 : Value → (Value → Option Value) → Option Value} {f2 : Value → (Value → Option (List Value)) → Option (List Value)} (hf2 : ∀ v k, f2 v k = match f1 v some with
    | some u => k u
    | none => none) : ∀ (l : List Value) (k : List Value → Option (List Value)), gzL f2 l k = match gzL f2 l some with
    | some us => k us
    | none => none := by
    intro l
    induction l with
    | nil => intro k; rfl
    | cons a l ih =>
      intro k
      simp only [gzL, hf2]
      cases f1 a some with
      | none => rfl
      | some u =>
        dsimp only
        rw [ih, ih fun r' => some (u :: r')]
        cases gzL f2 l some <;> rfl
theorem gzL_get {f1 : Value → (Value → Option Value) → Option Value} {f2 : Value → (Value → Option (List Value)) → Option (List Value)} (hf2 : ∀ v k, f2 v k = match f1 v some with
    | some u => k u
    | none => none) : ∀ (l us : List Value), gzL f2 l some = some us → us.length = l.length ∧ ∀ (i : Nat) (x y : Value), l[i]? = some x → us[i]? = some y → f1 x some = some y := by
  intro l
  induction l with
  | nil => intro us h; cases h; exact ⟨rfl, fun i x y hx => by simp at hx⟩
  | cons a l ih =>
    intro us h
    simp only [gzL, hf2] at h
    cases hg : f1 a some with
    | none => rw [hg] at h; cases h
    | some a' =>
      rw [hg] at h
      dsimp only at h
      rw [gzL_nat.gzL_nat1 hf2] at h
      cases hr : gzL f2 l some with
      | none => rw [hr] at h; cases h
      | some r =>
        rw [hr] at h
        cases h
        obtain ⟨h3, h4⟩ := ih r hr
        refine ⟨by simp [h3], fun i x y hx hy => ?_⟩
        cases i with
        | zero => simp at hx hy; subst hx hy; exact hg
        | succ i => exact h4 i x y (by simpa using hx) (by simpa using hy)

theorem gz_nat : ∀ (e d : Nat) (h : AH) (v : Value) {R : Type} (k : Value → Option R), gz e d h v k = match gz e d h v some with
    | some u => k u
    | none => none := by
  intro e
  induction e with
  | zero => intro d h v R k; rfl
  | succ e ih =>
    intro d h v R k
    have pl : ∀ (v : Value) {R : Type} (k : Value → Option R), (bif plain1 v then k v else none) = match (bif plain1 v then some v else none) with
      | some u => k u
      | none => none := fun v R k => by cases plain1 v <;> rfl
    have arr : ∀ (d : Nat) (cs : List Value) {R : Type} (k : List Value → Option R), gzL (gz e d h) cs k = match gzL (gz e d h) cs some with
      | some us => k us
      | none => none := fun d cs R k => gzL_nat (f1 := gz e d h) (fun v k => ih d h v k) (fun v k => ih d h v k) cs k
    cases v with
    | slice a l c =>
      cases a with
      | none => simp only [gz]; exact pl _ k
      | some p =>
        obtain ⟨b, off, sp⟩ := p
        cases sp with
        | some q => simp only [gz]; exact pl (.slice (some ⟨b, off, some q⟩) l c) k
        | none =>
          cases hb : h.get b with
          | none => simp only [gz, hb]
          | some bb =>
            cases bb with
            | mp r es => simp only [gz, hb]
            | row ro z cs =>
              match d with
              | 0 => simp only [gz, hb]
              | 1 => simp only [gz, hb]; cases tst (∀ x ∈ cs, GVal x) <;> rfl
              | d + 2 =>
                simp only [gz, hb]
                rw [arr, arr (d + 1) cs fun cs' => some (gslV l off false (cs'.map AI.nf))]
                cases gzL (gz e (d + 1) h) cs some <;> rfl
    | agg a =>
      obtain ⟨cs⟩ := a
      simp only [gz]
      rw [arr, arr d cs fun cs' => some (Value.agg ⟨cs'⟩)]
      cases gzL (gz e d h) cs some <;> rfl
    | tuple a =>
      obtain ⟨cs⟩ := a
      simp only [gz]
      rw [arr, arr d cs fun cs' => some (Value.tuple ⟨cs'⟩)]
      cases gzL (gz e d h) cs some <;> rfl
    | iface t v =>
      simp only [gz]
      cases Nat.ble gT t with
      | true => cases tst (GVal (.iface t v)) <;> rfl
      | false => cases plain1 v <;> rfl
    | func f a c =>
      obtain ⟨a⟩ := a
      obtain ⟨c⟩ := c
      cases a <;> cases c <;> rfl
    | _ => simp only [gz]; exact pl _ k

/-- The rows that are looked into. -/
def gzI : Nat → Nat → AH → Value → List Nat
  | 0, _, _, _ => []
  | e + 1, d, h, v => match v with
    | .slice (some ⟨b, off, none⟩) l c => match h.get b with
      | some (.row _ _ cs) => match d with
        | 0 => []
        | 1 => [b]
        | d + 2 => b :: cs.flatMap (gzI e (d + 1) h)
      | _ => []
    | .agg ⟨cs⟩ => cs.flatMap (gzI e d h)
    | .tuple ⟨cs⟩ => cs.flatMap (gzI e d h)
    | _ => []

theorem gzI_row : ∀ (e d : Nat) (h : AH) (v : Value) (i : Nat), i ∈ gzI e d h v → ∃ b, h.get i = some b := by
  intro e
  induction e with
  | zero => intro d h v i hi; cases hi
  | succ e ih =>
    intro d h v i hi
    unfold gzI at hi
    split at hi
    · split at hi
      · rename_i hb
        split at hi
        · cases hi
        · rw [List.mem_singleton.1 hi]; exact ⟨_, hb⟩
        · rcases List.mem_cons.1 hi with rfl | hi
          · exact ⟨_, hb⟩
          · obtain ⟨x, _, hx⟩ := List.mem_flatMap.1 hi
            exact ih _ _ _ _ hx
      · cases hi
    · obtain ⟨x, _, hx⟩ := List.mem_flatMap.1 hi
      exact ih _ _ _ _ hx
    · obtain ⟨x, _, hx⟩ := List.mem_flatMap.1 hi
      exact ih _ _ _ _ hx
    · cases hi

/-- What it comes to stands for the same. -/
theorem gz_ok {μ μ2 : Mu} {h : AH} {w : World} (hh : HRel gl μ h w) {I : List Nat} (h1 : ∀ B C, μ.fr B = some C → μ2.fr B = some C)
    (h2 : ∀ i ∈ I, ∀ C e fz, w.heap[(μ i).b]? = some (.cells C e fz) → μ2.fr (μ i).b = some C) : ∀ (e d : Nat) (v u : Value), gz e d h v some = some u → (∀ i ∈ gzI e d h v, i ∈ I) → ∀ (c : Value), VRel μ h.next v c → VRel μ2 0 u c := by
  intro e
  induction e with
  | zero => intro d v u h; cases h
  | succ e ih =>
    intro d v u hu hI
    have arr : ∀ (d : Nat) (cs us : List Value), gzL (gz e d h) cs some = some us → (∀ i ∈ cs.flatMap (gzI e d h), i ∈ I) → ∀ {ds : List Value}, LRel μ h.next cs ds → LRel μ2 0 us ds := by
      intro d cs us hus hI ds hr
      obtain ⟨q1, q2⟩ := gzL_get (f1 := gz e d h) (fun v k => gz_nat e d h v k) cs us hus
      refine ⟨q1.trans hr.1, fun i x y hx hy => ?_⟩
      have hi : i < cs.length := by rw [← q1]; exact (List.getElem?_eq_some_iff.1 hx).1
      exact ih d _ _ (q2 i _ x (List.getElem?_eq_getElem hi) hx) (fun i' hi' => hI i' (List.mem_flatMap.2 ⟨_, List.getElem_mem hi, hi'⟩)) _ (hr.2 i _ y (List.getElem?_eq_getElem hi) hy)
    have pl : ∀ {v : Value}, (bif plain1 v then some v else none) = some u → ∀ (c : Value), VRel μ h.next v c → VRel μ2 0 u c := by
      intro v hv c hc
      cases hp : plain1 v with
      | false => rw [hp] at hv; cases hv
      | true => rw [hp] at hv; cases hv; rw [hc.plain_eq' hp]; exact .plain _ hp
    cases v with
    | slice a l c =>
      cases a with
      | none => simp only [gz] at hu; exact pl hu
      | some p =>
        obtain ⟨b, off, sp⟩ := p
        cases sp with
        | some q => simp only [gz] at hu; exact pl hu
        | none =>
          cases hb : h.get b with
          | none => simp only [gz, hb] at hu; cases hu
          | some bb =>
            cases bb with
            | mp r es => simp only [gz, hb] at hu; cases hu
            | row ro z cs =>
              -- the row, in the model
              have rowrel : ∀ (cs' : List Value), b ∈ I → (∀ {ds : List Value}, LRel μ h.next cs ds → LRel μ2 0 cs' ds) → ∀ {v' : Value}, VRel μ h.next (.slice (some ⟨b, off, none⟩) l c) v' → VRel μ2 0 (gslV l off false cs') v' := by
                intro cs' hbI hcs v' hv
                obtain ⟨hbn, o', rfl, ho⟩ := hv.slice
                obtain ⟨C, et, fz, hr⟩ := hh.blk _ _ hb
                have hfit := hr.fits
                have e1 : C.toList.length = C.size := Array.length_toList
                have hl : LRel μ h.next cs ((C.toList.drop (μ b).o).take cs.length) := by
                  refine ⟨by rw [List.length_take, List.length_drop, e1]; omega, fun i x y hx hy => ?_⟩
                  obtain ⟨c, q1, q2⟩ := hr.cells i x hx
                  have hi := (List.getElem?_eq_some_iff.1 hx).1
                  rw [List.getElem?_take, if_pos hi, List.getElem?_drop, Array.getElem?_toList, q1] at hy
                  cases hy
                  exact q2
                have hl2 := hcs hl
                have hlen : cs'.length = cs.length := by
                  have := hl2.1
                  rw [List.length_take, List.length_drop, e1] at this
                  omega
                refine .gsl l off false cs' _ _ (μ b).b (μ b).o C (fun h => by cases h) (by omega) (fun q hq => by cases hq; rfl) (fun hq => by cases hq) (fun hne => ?_) (fun j x y hne hx hy => ?_)
                · have ho' : o' = (μ b).o + off := by
                    rcases ho with ho | ⟨h0, _⟩
                    · exact ho
                    · exact absurd h0 hne
                  rw [ho']
                  exact ⟨rfl, h2 b hbI C et fz hr.at_, by omega⟩
                · have hj := (List.getElem?_eq_some_iff.1 hx).1
                  refine hl2.2 j x y hx ?_
                  rw [List.getElem?_take, if_pos (by omega), List.getElem?_drop, Array.getElem?_toList]
                  exact hy
              match d with
              | 0 => simp only [gz, hb] at hu; cases hu
              | 1 =>
                simp only [gz, hb] at hu
                simp only [gzI, hb] at hI
                cases hq : tst (∀ x ∈ cs, GVal x) with
                | false => rw [hq] at hu; cases hu
                | true =>
                  rw [hq] at hu
                  cases hu
                  have hg := of_tst hq
                  exact fun c' hc => rowrel cs (hI b (by simp)) (fun {ds} hl => ⟨hl.1, fun i x y hx hy => (hg x (List.mem_of_getElem? hx)).vrel h1 (hl.2 i x y hx hy)⟩) hc
              | d + 2 =>
                simp only [gz, hb] at hu
                simp only [gzI, hb] at hI
                rw [gzL_nat (f1 := gz e (d + 1) h) (fun v k => gz_nat e (d + 1) h v k) (fun v k => gz_nat e (d + 1) h v k)] at hu
                cases hus : gzL (gz e (d + 1) h) cs some with
                | none => rw [hus] at hu; cases hu
                | some us =>
                    rw [hus] at hu
                    cases hu
                    exact fun c' hc => (rowrel us (hI b (by simp)) (arr (d + 1) cs us hus (fun i hi => hI i (List.mem_cons.2 (.inr hi)))) hc).gsl_nf
    | agg a =>
      obtain ⟨cs⟩ := a
      simp only [gz] at hu
      rw [gzL_nat (f1 := gz e d h) (fun v k => gz_nat e d h v k) (fun v k => gz_nat e d h v k)] at hu
      cases hus : gzL (gz e d h) cs some with
      | none => rw [hus] at hu; cases hu
      | some us =>
        rw [hus] at hu
        cases hu
        intro c hc
        obtain ⟨ys, rfl, hl⟩ := hc.aggI
        have := arr d cs us hus hI hl
        exact .agg _ _ this.1 this.2
    | tuple a =>
      obtain ⟨cs⟩ := a
      simp only [gz] at hu
      rw [gzL_nat (f1 := gz e d h) (fun v k => gz_nat e d h v k) (fun v k => gz_nat e d h v k)] at hu
      cases hus : gzL (gz e d h) cs some with
      | none => rw [hus] at hu; cases hu
      | some us =>
        rw [hus] at hu
        cases hu
        intro c hc
        obtain ⟨ys, rfl, hl⟩ := hc.tupleI
        have := arr d cs us hus hI hl
        exact .tuple _ _ this.1 this.2
    | iface t v =>
      simp only [gz] at hu
      cases ht : Nat.ble gT t with
      | true =>
        rw [ht] at hu
        cases hq : tst (GVal (.iface t v)) with
        | false => rw [hq] at hu; cases hu
        | true => rw [hq] at hu; cases hu; exact fun c' hc => (of_tst hq).vrel h1 hc
      | false =>
        rw [ht] at hu
        cases hp : plain1 v with
        | false => rw [hp] at hu; cases hu
        | true => rw [hp] at hu; cases hu; exact fun c' hc => (GVal.iface t v ht (.plain v hp)).vrel h1 hc
    | func f a c =>
      obtain ⟨a⟩ := a
      obtain ⟨c⟩ := c
      cases a with
      | cons x r => simp only [gz] at hu; exact pl hu
      | nil =>
        cases c with
        | cons x r => simp only [gz] at hu; exact pl hu
        | nil =>
          simp only [gz] at hu
          cases hu
          intro v' hv
          cases hv with
          | plain v hp => simp [plain1] at hp
          | func fn f1 f' c1 c' l1 h1 l2 h2 => exact .func f _ _ _ _ l1 (fun i x y hx => by simp at hx) l2 (fun i x y hx => by simp at hx)
    | _ => simp only [gz] at hu; exact pl hu

/-- No function is known; one more. -/
def noG : TabF := fun _ _ => none
def andG (k : FuncId) (f : List Value → Option (Bool × Value)) (F : TabF) : TabF := fun g ar => bif Nat.beq g k then f ar else F g ar
def killI : List Nat → AH → Option AH
  | [], h => some h
  | i :: r, h => match h.get i with
    | some b => bif b.ro then none else killI r (h.kill i)
    | none => killI r h

theorem killI_ok {μ : Mu} {w : World} : ∀ (ids : List Nat) (h h2 : AH), killI ids h = some h2 → h2.next = h.next ∧ (∀ i, h2.get i = if i ∈ ids then none else h.get i) ∧ (∀ i ∈ ids, ∀ b, h.get i = some b → b.ro = false) ∧
    (HRel gl μ h w → HRel gl μ h2 w ∧ Fr μ h w μ h2 w) := by
  intro ids
  induction ids with
  | nil => intro h h2 e; cases e; exact ⟨rfl, fun i => (by simp), fun i hi => (by cases hi), fun hh => ⟨hh, .refl _ _ _⟩⟩
  | cons a r ih =>
    intro h h2 e
    unfold killI at e
    split at e
    · rename_i b hb
      cases hr : b.ro with
      | true => rw [hr] at e; cases e
      | false =>
        rw [hr] at e
        obtain ⟨h1, h3, h4, h5⟩ := ih (h.kill a) h2 e
        refine ⟨h1.trans (AH.next_kill _ _), fun i => ?_, fun i hi x hx => ?_, fun hh => ?_⟩
        · rw [h3 i, AH.get_kill]
          by_cases ha : i = a
          · subst ha; simp
          · rw [if_neg ha]; simp [ha]
        · by_cases ha : i = a
          · subst ha; rw [hb] at hx; cases hx; exact hr
          · exact h4 i ((List.mem_cons.1 hi).resolve_left ha) x (by rw [AH.get_kill, if_neg ha]; exact hx)
        · obtain ⟨k1, k2⟩ := hh.kill hb hr
          obtain ⟨k3, k4⟩ := h5 k1
          exact ⟨k3, k2.trans k4⟩
    · rename_i hb
      obtain ⟨h1, h3, h4, h5⟩ := ih h h2 e
      refine ⟨h1, fun i => ?_, fun i hi x hx => ?_, h5⟩
      · rw [h3 i]
        by_cases ha : i = a
        · subst ha; simp [hb]
        · simp [ha]
      · by_cases ha : i = a
        · subst ha; rw [hb] at hx; cases hx
        · exact h4 i ((List.mem_cons.1 hi).resolve_left ha) x hx

/-- Calls by a table; rows of one's own are shown to it (so deep), and given away if the answer may show them. -/
noncomputable def sumGK {R : Type} (d : FuncId → Nat) (F : TabF) : CK R := fun g ar h k => gzL (gz 20 (d g) h) ar fun ar' => match F g ar' with
  | some (b, v) => bif b then (bif plainV v then k v h else match killI (ar.flatMap (gzI 20 (d g) h)) h with
    | some h' => k v h'
    | none => none) else none
  | none => none
noncomputable def sumG (d : FuncId → Nat) (F : TabF) : CallA := fun g ar h => sumGK d F g ar h fun v h' => some (v, h')

theorem gzLn {R : Type} (e d : Nat) (h : AH) (cs : List Value) (k : List Value → Option R) : gzL (gz e d h) cs k = match gzL (gz e d h) cs some with
    | some us => k us
    | none => none := gzL_nat (f1 := gz e d h) (fun v k => gz_nat e d h v k) (fun v k => gz_nat e d h v k) cs k

theorem sumGK_ok {R : Type} (d : FuncId → Nat) (F : TabF) : CKok (R := R) (sumG d F) (sumGK d F) := by
  intro g ar h k
  unfold sumG sumGK
  rw [gzLn, gzLn 20 (d g) h ar fun ar' => match F g ar' with
    | some (b, v) => bif b then (bif plainV v then some (v, h) else match killI (ar.flatMap (gzI 20 (d g) h)) h with
      | some h' => some (v, h')
      | none => none) else none
    | none => none]
  cases gzL (gz 20 (d g) h) ar some with
  | none => rfl
  | some ar' =>
    dsimp only
    rcases F g ar' with _ | ⟨b, v⟩
    · rfl
    · cases b with
      | false => rfl
      | true =>
        dsimp only [cond_true]
        cases plainV v with
        | true => rfl
        | false => dsimp only [cond_false]; cases killI (ar.flatMap (gzI 20 (d g) h)) h <;> rfl

theorem gzL_ok {μ μ2 : Mu} {h : AH} {w : World} (hh : HRel gl μ h w) {I : List Nat} (h1 : ∀ B C, μ.fr B = some C → μ2.fr B = some C)
    (h2 : ∀ i ∈ I, ∀ C e fz, w.heap[(μ i).b]? = some (.cells C e fz) → μ2.fr (μ i).b = some C) {e d : Nat} {cs us : List Value} (hus : gzL (gz e d h) cs some = some us) (hI : ∀ i ∈ cs.flatMap (gzI e d h), i ∈ I) {ds : List Value} (hr : LRel μ h.next cs ds) : LRel μ2 0 us ds := by
  obtain ⟨q1, q2⟩ := gzL_get (f1 := gz e d h) (fun v k => gz_nat e d h v k) cs us hus
  refine ⟨q1.trans hr.1, fun i x y hx hy => ?_⟩
  have hi : i < cs.length := by rw [← q1]; exact (List.getElem?_eq_some_iff.1 hx).1
  exact gz_ok hh h1 h2 e d _ _ (q2 i _ x (List.getElem?_eq_getElem hi) hx) (fun i' hi' => hI i' (List.mem_flatMap.2 ⟨_, List.getElem_mem hi, hi'⟩)) _ (hr.2 i _ y (List.getElem?_eq_getElem hi) hy)

end Go.Proofs.YtachednafdmmaaaDoor.AI
