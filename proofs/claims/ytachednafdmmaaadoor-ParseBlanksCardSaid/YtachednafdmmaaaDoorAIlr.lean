/- The abstract interpreter: loops of functions that change a block of their caller's, told by plain functions. -/
import Derived.Test.YtachednafdmmaaaDoorAIlq
namespace Go.Proofs.YtachednafdmmaaaDoor.AI
open Go Go.RowKit
set_option linter.unusedVariables false
set_option linter.unusedSimpArgs false

variable {P : Program} {gl : Nat → Option Nat}

/-- A state with calls put off. -/
def stD (ts : List Nat) (vs : List Value) (n : Nat) (h : AH) (ds : List (FuncId × List Value)) : St := ⟨mkT ts vs, n, h, ds⟩
/-- Calls put off that name nothing but the block that is lent. -/
def dsP (D : List (FuncId × List Value)) : Prop := ∀ x ∈ D, ∀ v ∈ x.2, v = p0
theorem dsP_nil : dsP [] := fun x hx => by cases hx
theorem dsP_one (g : FuncId) : dsP [(g, [p0])] := fun x hx v hv => by
  rw [List.mem_singleton.1 hx] at hv
  exact List.mem_singleton.1 hv
theorem VRel.ptrI {μ : Mu} {n b o : Nat} {c : Value} (h : VRel μ n (.pointer (some ⟨b, o, none⟩)) c) : b < n ∧ c = .pointer (some ⟨(μ b).b, (μ b).o + o, none⟩) := by
  cases h with
  | plain _ hp => cases hp
  | ptr _ _ hb => exact ⟨hb, rfl⟩
theorem DRel.fix {μ μ2 : Mu} {n n2 : Nat} (h0 : μ2 0 = μ 0) (hn : 0 < n2) {D : List (FuncId × List Value)} {ds : List Deferred} (h : DRel μ n D ds) : dsP D → DRel μ2 n2 D ds := by
  induction h with
  | nil => intro _; exact .nil
  | cons g ar cap args ds ds' h1 h2 ih =>
    intro hD
    refine .cons g ar cap args ds ds' ⟨h1.1, fun i x y hx hy => ?_⟩ (ih fun x hx => hD x (List.mem_cons_of_mem _ hx))
    have hv := hD (g, ar) List.mem_cons_self x (List.mem_of_getElem? hx)
    have h3 := h1.2 i x y hx hy
    rw [hv] at h3 ⊢
    obtain ⟨_, rfl⟩ := h3.ptrI
    rw [← h0]
    exact .ptr 0 0 hn
theorem covers_ds {hE : AH} {σ2 σ1 : St} {D : List (FuncId × List Value)} (hD : dsP D) (hE1 : 0 < hE.next) (hd2 : σ2.ds = []) (h : Covers gl hE σ2 { σ1 with ds := [] }) : Covers gl hE { σ2 with ds := D } { σ1 with ds := D } := by
  intro μE μ1 wE w a hE' hs f
  obtain ⟨μ2, g1, g2⟩ := h μE μ1 wE w { a with defers := [] } hE' ⟨hs.size, hs.tmps, hs.heap, .nil⟩ f
  refine ⟨μ2, ⟨g1.size, g1.tmps, g1.heap, ?_⟩, g2⟩
  have e1 := f.ext.loc 0 hE1
  have e2 := g2.ext.loc 0 hE1
  exact DRel.fix (e2.trans e1.symm) (Nat.lt_of_lt_of_le hE1 g2.next) hs.ds hD

/-- A row of one's own or not, by its new name. -/
def rnB (j : Nat) : List Nat → Nat → Option Nat
  | [], _ => none
  | i :: r, b => bif Nat.beq i b then some j else rnB (j + 1) r b
def rn1 (z : Bool) (ids : List Nat) (v : Value) : Value := match v with
  | .pointer (some ⟨b, o, none⟩) => (match rnB 0 ids b with
    | some j => .pointer (some ⟨j, o, none⟩)
    | none => .map (some 0))
  | .slice (some ⟨b, o, none⟩) l c => (match rnB 0 ids b with
    | some j => .slice (some ⟨j, o, none⟩) l c
    | none => .map (some 0))
  | .slice none 0 0 => bif z then gslV 0 0 false [] else .slice none 0 0
  | v => exF v
def rnM (z : Bool) (ids : List Nat) : List Value → List Value
  | [] => []
  | v :: r => rn1 z ids v :: rnM z ids r
/-- A value by its new names; rows of nothing told as such (z). -/
def rnV (z : Bool) (ids : List Nat) (v : Value) : Value := match v with
  | .agg ⟨l⟩ => .agg ⟨rnM z ids l⟩
  | v => rn1 z ids v
def rnL (z : Bool) (ids : List Nat) : List Value → List Value
  | [] => []
  | v :: r => rnV z ids v :: rnL z ids r
def rnBs (z : Bool) (ids : List Nat) : List Bool → List Blk → List Blk
  | _, [] => []
  | true :: gs, .row r y cs :: l => .row r y (cs.map exF) :: rnBs z ids gs l
  | gs, .row r y cs :: l => .row r y (rnL z ids cs) :: rnBs z ids (gs.drop 1) l
  | gs, b :: l => b :: rnBs z ids (gs.drop 1) l
theorem rnL_get (z : Bool) (ids : List Nat) : ∀ (vs : List Value), (rnL z ids vs).length = vs.length ∧ ∀ (j : Nat) (v u : Value), vs[j]? = some v → (rnL z ids vs)[j]? = some u → u = rnV z ids v := by
  intro vs
  induction vs with
  | nil => exact ⟨rfl, fun j v u h => by simp at h⟩
  | cons x r ih =>
    refine ⟨by show (rnL z ids r).length + 1 = _; rw [ih.1]; rfl, fun j v u h h' => ?_⟩
    cases j with
    | zero => cases h; cases h'; rfl
    | succ j => exact ih.2 j v u (by simpa using h) (by simpa [rnL] using h')
theorem rnM_get (z : Bool) (ids : List Nat) : ∀ (vs : List Value), (rnM z ids vs).length = vs.length ∧ ∀ (j : Nat) (v u : Value), vs[j]? = some v → (rnM z ids vs)[j]? = some u → u = rn1 z ids v := by
  intro vs
  induction vs with
  | nil => exact ⟨rfl, fun j v u h => by simp at h⟩
  | cons x r ih =>
    refine ⟨by show (rnM z ids r).length + 1 = _; rw [ih.1]; rfl, fun j v u h h' => ?_⟩
    cases j with
    | zero => cases h; cases h'; rfl
    | succ j => exact ih.2 j v u (by simpa using h) (by simpa [rnM] using h')
theorem rnBs_get (z : Bool) (ids : List Nat) : ∀ (bs : List Blk) (gs : List Bool), (rnBs z ids gs bs).length = bs.length ∧ ∀ (j : Nat) (r : Bool) (y : Nat) (cs : List Value) (u : Blk), bs[j]? = some (.row r y cs) → (rnBs z ids gs bs)[j]? = some u → (gs[j]? = some true ∧ u = .row r y (cs.map exF)) ∨ u = .row r y (rnL z ids cs) := by
  intro bs
  induction bs with
  | nil => intro gs; exact ⟨by cases gs with | nil => rfl | cons g gs => cases g <;> rfl, fun j r z cs u h => by simp at h⟩
  | cons x l ih =>
    intro gs
    have key : ∃ (x' : Blk) (gs' : List Bool), rnBs z ids gs (x :: l) = x' :: rnBs z ids gs' l ∧ (∀ j : Nat, gs'[j]? = gs[j + 1]?) ∧ ∀ r y cs, x = .row r y cs → (gs[0]? = some true ∧ x' = .row r y (cs.map exF)) ∨ x' = .row r y (rnL z ids cs) := by
      cases gs with
      | nil => cases x with
        | row r y cs => exact ⟨_, _, rfl, fun j => by simp, fun r' y' cs' e => by cases e; exact .inr rfl⟩
        | mp r es => exact ⟨_, _, rfl, fun j => by simp, fun r' y' cs' e => by cases e⟩
      | cons g gs => cases g with
        | true => cases x with
          | row r y cs => exact ⟨_, _, rfl, fun j => by simp, fun r' y' cs' e => by cases e; exact .inl ⟨rfl, rfl⟩⟩
          | mp r es => exact ⟨_, _, rfl, fun j => by simp, fun r' y' cs' e => by cases e⟩
        | false => cases x with
          | row r y cs => exact ⟨_, _, rfl, fun j => by simp, fun r' y' cs' e => by cases e; exact .inr rfl⟩
          | mp r es => exact ⟨_, _, rfl, fun j => by simp, fun r' y' cs' e => by cases e⟩
    obtain ⟨x', gs', e, hg, hx⟩ := key
    obtain ⟨i1, i2⟩ := ih gs'
    rw [e]
    refine ⟨by simp [i1], fun j r y cs u h h' => ?_⟩
    cases j with
    | zero =>
      have e1 : x = .row r y cs := by simpa using h
      have e2 : x' = u := by simpa using h'
      rw [← e2]
      exact hx r y cs e1
    | succ j =>
      rw [← hg j]
      exact i2 j r y cs u (by simpa using h) (by simpa using h')
theorem rnB_some : ∀ {ids : List Nat} {j b i : Nat}, rnB j ids b = some i → j ≤ i ∧ ids[i - j]? = some b := by
  intro ids
  induction ids with
  | nil => intro j b i h; cases h
  | cons a r ih =>
    intro j b i h
    unfold rnB at h
    cases hb : Nat.beq a b with
    | true =>
      rw [hb] at h
      cases h
      refine ⟨Nat.le_refl _, ?_⟩
      rw [Nat.sub_self, Nat.eq_of_beq_eq_true hb]; rfl
    | false =>
      rw [hb] at h
      obtain ⟨h1, h2⟩ := ih h
      refine ⟨by omega, ?_⟩
      rw [show i - j = (i - (j + 1)) + 1 by omega, List.getElem?_cons_succ]
      exact h2
/-- Values that name no row but those that are kept (so many). -/
def okY (e k : Nat) (v : Value) : Prop := GVal v ∨ (∃ j, j < k ∧ v = .pointer (some ⟨j, 0, none⟩)) ∨ (∃ j l c, j < k ∧ v = .slice (some ⟨j, 0, none⟩) l c) ∨ (∃ g, v = fv g) ∨ ∃ g j, j < e ∧ v = .func (.func g) ⟨[]⟩ ⟨[.pointer (some ⟨j, 0, none⟩)]⟩
def okB (e : Nat) (gs : List Bool) (bs : List Blk) : Prop := ∀ (j : Nat) (b : Blk), bs[j]? = some b → ∃ z cs, b = .row false z cs ∧ (gs[j]? = some true → ∀ v ∈ cs, GVal v) ∧ ∀ v ∈ cs, okY e bs.length v
theorem okY_ren {e n : Nat} {v : Value} (h : okY e n v) (hne : ∀ b o, v ≠ .pointer (some ⟨b, o, none⟩)) (hns : ∀ b o l c, v ≠ .slice (some ⟨b, o, none⟩) l c) {ρ δ : Nat → Nat} (hp : ∀ j, j < e → Ren ρ δ n (.pointer (some ⟨j, 0, none⟩)) (.pointer (some ⟨j, 0, none⟩))) (he : 0 < e) : Ren ρ δ n v v := by
  rcases h with h | ⟨j, _, rfl⟩ | ⟨j, l, c, _, rfl⟩ | ⟨g, rfl⟩ | ⟨g, j, hj, rfl⟩
  · exact .gv _ h
  · exact absurd rfl (hne j 0)
  · exact absurd rfl (hns j 0 l c)
  · refine .func _ _ _ _ _ rfl (fun i x y hx hy => ?_) rfl (fun i x y hx hy => by simp at hx)
    rw [hx] at hy
    cases hy
    cases i with
    | zero => cases hx; exact hp 0 he
    | succ i => simp at hx
  · refine .func _ _ _ _ _ rfl (fun i x y hx hy => by simp at hx) rfl (fun i x y hx hy => ?_)
    rw [hx] at hy
    cases hy
    cases i with
    | zero => cases hx; exact hp j hj
    | succ i => simp at hx
theorem rn1_ren {z : Bool} {ids : List Nat} {e n : Nat} {v : Value} (hk : ids.length = n) (he : 0 < e) (h0 : ∀ j, j < e → ids[j]? = some j) (h : okY e n (rn1 z ids v)) : Ren (idk 0 ids) (idd 0 []) n (rn1 z ids v) v := by
  have hid : ∀ j, idd 0 [] j = 0 := fun j => by unfold idd; split <;> simp [idx]
  have hkk : ∀ j b, ids[j]? = some b → idk 0 ids j = b := fun j b hj => by unfold idk; rw [if_neg (Nat.not_lt_zero _), Nat.sub_zero]; simp [idx, hj]
  have hpj : ∀ j, j < e → Ren (idk 0 ids) (idd 0 []) n (.pointer (some ⟨j, 0, none⟩)) (.pointer (some ⟨j, 0, none⟩)) := fun j hj => by
    have hj' := h0 j hj
    have := Ren.ptr (ρ := idk 0 ids) (δ := idd 0 []) (n := n) j 0 0 (by rw [← hk]; exact (List.getElem?_eq_some_iff.1 hj').1) (by rw [hid])
    rw [hkk j j hj'] at this
    exact this
  have bad : ¬ okY e n (.map (some 0)) := by
    rintro (h | ⟨j, _, h⟩ | ⟨j, l, c, _, h⟩ | ⟨g, h⟩ | ⟨g, j, _, h⟩)
    · cases h with
      | plain _ hp => cases hp
    · cases h
    · cases h
    · cases h
    · cases h
  unfold rn1 at h ⊢
  split
  · rename_i b o
    dsimp only at h ⊢
    cases hb : rnB 0 ids b with
    | none => rw [hb] at h; exact absurd h bad
    | some j =>
      dsimp only
      obtain ⟨_, h2⟩ := rnB_some hb
      rw [Nat.sub_zero] at h2
      have hlt : j < n := by rw [← hk]; exact (List.getElem?_eq_some_iff.1 h2).1
      have := Ren.ptr (ρ := idk 0 ids) (δ := idd 0 []) (n := n) j o o hlt (by rw [hid]; omega)
      rw [hkk j b h2] at this
      exact this
  · rename_i b o l c
    dsimp only at h ⊢
    cases hb : rnB 0 ids b with
    | none => rw [hb] at h; exact absurd h bad
    | some j =>
      dsimp only
      obtain ⟨_, h2⟩ := rnB_some hb
      rw [Nat.sub_zero] at h2
      have hlt : j < n := by rw [← hk]; exact (List.getElem?_eq_some_iff.1 h2).1
      have := Ren.slc (ρ := idk 0 ids) (δ := idd 0 []) (n := n) j o o l c hlt (by rw [hid]; omega)
      rw [hkk j b h2] at this
      exact this
  · cases z with
    | true => exact .nil
    | false => exact .plain _ rfl
  · rename_i h1 h2 h3
    have e1 : rn1 z ids v = exF v := by
      unfold rn1
      split
      · exact absurd rfl (h1 _ _)
      · exact absurd rfl (h2 _ _ _ _)
      · exact absurd rfl h3
      · rfl
    have h' : okY e n (rn1 z ids v) := h
    rw [e1] at h'
    by_cases hg : GVal v
    · exact .ex v hg
    · have e2 : exF v = v := by
        unfold exF
        split
        · rename_i ty l off cs
          cases hb : Nat.beq ty 4294967296 with
          | false => rfl
          | true =>
            exfalso
            have := Nat.eq_of_beq_eq_true hb
            subst this
            have e3 : exF (.iface 4294967296 (.tuple ⟨.slice none l off :: .bool true :: cs⟩)) = gslV l off false cs := by
              unfold exF
              dsimp only
              rw [hb]; rfl
            rw [e3] at h'
            rcases h' with h' | ⟨j, _, h'⟩ | ⟨j, l, c, _, h'⟩ | ⟨g, h'⟩ | ⟨g, j, _, h'⟩
            · exact hg (gv_ex h')
            · unfold gslV at h'; cases h'
            · unfold gslV at h'; cases h'
            · unfold gslV at h'; cases h'
            · unfold gslV at h'; cases h'
        · rfl
      rw [e2] at h' ⊢
      exact okY_ren h' (fun b o e => h1 b o e) (fun b o l c e => h2 b o l c e) hpj he
theorem rnV_ren {z : Bool} {ids : List Nat} {e n : Nat} {v : Value} (hk : ids.length = n) (he : 0 < e) (h0 : ∀ j, j < e → ids[j]? = some j) (h : okY e n (rnV z ids v)) : Ren (idk 0 ids) (idd 0 []) n (rnV z ids v) v := by
  unfold rnV at h ⊢
  split
  · rename_i l
    have hg : GVal (.agg ⟨rnM z ids l⟩) := by
      rcases h with h | ⟨j, _, h⟩ | ⟨j, _, _, _, h⟩ | ⟨g, h⟩ | ⟨g, j, _, h⟩
      · exact h
      · cases h
      · cases h
      · cases h
      · cases h
    have hg' : ∀ x ∈ rnM z ids l, GVal x := by
      cases hg with
      | plain _ hp => cases hp
      | agg _ h => exact h
    obtain ⟨m1, m2⟩ := rnM_get z ids l
    refine .agg _ _ m1 fun i x y hx hy => ?_
    have hx' : (rnM z ids l)[i]? = some x := hx
    have := m2 i y x hy hx
    subst this
    exact rn1_ren hk he h0 (.inl (hg' _ (List.mem_of_getElem? hx')))
  · rename_i h1
    refine rn1_ren hk he h0 ?_
    have e1 : rnV z ids v = rn1 z ids v := by
      unfold rnV
      split
      · exact absurd rfl (h1 _)
      · rfl
    have h' : okY e n (rnV z ids v) := h
    rw [e1] at h'
    exact h'
theorem rnL_ren {z : Bool} {ids : List Nat} {e n : Nat} {vs : List Value} (hk : ids.length = n) (he : 0 < e) (h0 : ∀ j, j < e → ids[j]? = some j) (h : ∀ v ∈ rnL z ids vs, okY e n v) : RenL (idk 0 ids) (idd 0 []) n (rnL z ids vs) vs := by
  obtain ⟨m1, m2⟩ := rnL_get z ids vs
  refine ⟨m1, fun i x y hx hy => ?_⟩
  have := m2 i y x hy hx
  subst this
  exact rnV_ren hk he h0 (h _ (List.mem_of_getElem? hx))
/-- Where a row that grows is told: nowhere, in a temporary, in a row's cell. -/
inductive KS where
  | no
  | tmp (t : Nat)
  | cell (b c : Nat)
def idsV (base : List Nat) (v : Value) : Option (List Nat) := match v with
  | .slice (some ⟨b, _, none⟩) _ _ => some (base ++ [b])
  | .slice none 0 0 => some base
  | _ => none
/-- The rows that are kept. -/
def idsF (base : List Nat) (ks : KS) (σ : St) : Option (List Nat) := match ks with
  | .no => some base
  | .tmp t => match σ.T.get t with
    | some v => idsV base v
    | none => none
  | .cell b c => match σ.h.get b with
    | some (.row _ _ cs) => match cs[c]? with
      | some v => idsV base v
      | none => none
    | _ => none
def nodupB : List Nat → Bool
  | [] => true
  | a :: r => !(isIn r a) && nodupB r
theorem nodupB_ok : ∀ {l : List Nat}, nodupB l = true → l.Nodup := by
  intro l
  induction l with
  | nil => intro _; exact List.nodup_nil
  | cons a r ih =>
    intro h
    unfold nodupB at h
    rw [Bool.and_eq_true, Bool.not_eq_true'] at h
    refine List.nodup_cons.2 ⟨fun hm => ?_, ih h.2⟩
    have : isIn r a = true := by
      unfold isIn
      exact List.any_eq_true.2 ⟨a, hm, Nat.beq_refl a⟩
    rw [this] at h
    cases h.1
def preB : Nat → Nat → List Nat → Bool
  | _, 0, _ => true
  | i, e + 1, a :: r => Nat.beq a i && preB (i + 1) e r
  | _, _ + 1, [] => false
theorem preB_ok : ∀ {e i : Nat} {ids : List Nat}, preB i e ids = true → ∀ j, j < e → ids[j]? = some (i + j) := by
  intro e
  induction e with
  | zero => intro i ids _ j hj; omega
  | succ e ih =>
    intro i ids h j hj
    cases ids with
    | nil => cases h
    | cons a r =>
      unfold preB at h
      rw [Bool.and_eq_true] at h
      cases j with
      | zero => rw [Nat.eq_of_beq_eq_true h.1]; rfl
      | succ j =>
        have := ih h.2 j (by omega)
        rw [List.getElem?_cons_succ, this]
        congr 1; omega
/-- The first ones are where the function found them. -/
def okI (e : Nat) (ids : List Nat) : Bool := preB 0 e ids && nodupB ids
theorem okI_ok {e : Nat} {ids : List Nat} (h : okI e ids = true) : ids.Nodup ∧ ∀ j, j < e → ids[j]? = some j := by
  unfold okI at h
  rw [Bool.and_eq_true] at h
  refine ⟨nodupB_ok h.2, fun j hj => ?_⟩
  rw [preB_ok h.1 j hj, Nat.zero_add]

/-- What a piece of code leaves of some temporaries and some rows (the first one is lent); other rows by what they hold. -/
noncomputable def finI {R : Type} (ts ids : List Nat) (z : Bool) (gs : List Bool) (d : Nat) (σ : St) (k : List Value → List Blk → Option R) : Option R :=
  match picks ts σ.T with
  | some vs => gzL (fz 20 d (fun b => bif isIn ids b then false else true) σ.h) vs fun us => match picksH ids σ.h with
    | some bs => fzBs d (fun b => bif isIn ids b then false else true) σ.h gs bs fun bs1 => k (rnL z ids us) (rnBs z ids gs bs1)
    | none => none
  | none => none
theorem finI_nat {R : Type} (ts ids : List Nat) (z : Bool) (gs : List Bool) (d : Nat) (σ : St) (k : List Value → List Blk → Option R) : finI ts ids z gs d σ k = match finI ts ids z gs d σ (fun u b => some (u, b)) with
    | some (u, b) => k u b
    | none => none := by
  unfold finI
  cases picks ts σ.T with
  | none => rfl
  | some vs =>
    dsimp only
    conv => lhs; rw [fzLn]
    conv => rhs; rw [fzLn]
    cases gzL (fz 20 d (fun b => bif isIn ids b then false else true) σ.h) vs some with
    | none => rfl
    | some us =>
      dsimp only
      cases picksH ids σ.h with
      | none => rfl
      | some bs =>
        dsimp only
        conv => lhs; rw [fzBs_nat]
        conv => rhs; rw [fzBs_nat]
        cases fzBs d (fun b => bif isIn ids b then false else true) σ.h gs bs some <;> rfl
noncomputable def finY {R : Type} (e : Nat) (ts base : List Nat) (ks : KS) (z : Bool) (gs : List Bool) (d : Nat) (σ : St) (k : List Value → List Blk → Option R) : Option R :=
  match idsF base ks σ with
  | some ids => bif okI e ids then finI ts ids z gs d σ k else none
  | none => none
theorem finY_nat {R : Type} (e : Nat) (ts base : List Nat) (ks : KS) (z : Bool) (gs : List Bool) (d : Nat) (σ : St) (k : List Value → List Blk → Option R) : finY e ts base ks z gs d σ k = match finY e ts base ks z gs d σ (fun u b => some (u, b)) with
    | some (u, b) => k u b
    | none => none := by
  unfold finY
  cases idsF base ks σ with
  | none => rfl
  | some ids =>
    dsimp only
    cases okI e ids with
    | false => rfl
    | true => exact finI_nat ts ids z gs d σ k
theorem covers_Y {ts base : List Nat} {ks : KS} {z : Bool} {gs : List Bool} {d n : Nat} {σ : St} {us : List Value} {bs' : List Blk} {bsE : List Blk} (h : finY bsE.length ts base ks z gs d σ (fun u b => some (u, b)) = some (us, bs')) (hE0 : ∀ b ∈ bsE, b.ro = false) (hE1 : 0 < bsE.length) (hn : σ.n = n) (hok : ∀ v ∈ us, okY bsE.length bs'.length v) (hob : okB bsE.length gs bs') (htd : ts.Nodup) (hD : dsP σ.ds) :
    Covers (glV []) (mkHV [] bsE) (stD ts us n (mkHV [] bs') σ.ds) σ := by
  obtain ⟨T, n', hp, ds⟩ := σ
  dsimp only at hn hD
  subst hn
  refine covers_ds (σ2 := stD ts us n' (mkHV [] bs') []) (σ1 := ⟨T, n', hp, []⟩) (D := ds) hD (by show 0 < [].length + bsE.length; simpa using hE1) rfl ?_
  unfold finY at h
  split at h
  · rename_i ids hids
    cases hoi : okI bsE.length ids with
    | false => rw [hoi] at h; cases h
    | true =>
    rw [hoi] at h
    obtain ⟨hid, h0⟩ := okI_ok hoi
    dsimp only [cond_true] at h
    unfold finI at h
    split at h
    · rename_i vs hvs
      rw [fzLn] at h
      split at h
      · rename_i us0 hus0
        split at h
        · rename_i bs hbs
          obtain ⟨bs1, q1, q2, q3⟩ := fzBs_get _ _ _ _ h
          simp only [Option.some.injEq, Prod.mk.injEq] at q1
          obtain ⟨rfl, rfl⟩ := q1
          obtain ⟨b1, b2⟩ := rnBs_get z ids bs1 gs
          have hlen : (rnBs z ids gs bs1).length = ids.length := by rw [b1, q2]; exact (picksH_get hbs).1
          unfold okB at hob
          rw [hlen] at hok hob
          have hpos : bsE.length ≤ ids.length := by
            have := (List.getElem?_eq_some_iff.1 (h0 (bsE.length - 1) (by omega))).1
            omega
          have e0 : ([] : VTabs).length + (rnBs z ids gs bs1).length = ids.length := by rw [hlen]; exact Nat.zero_add _
          refine covers_HY (l := []) (bsE := bsE) lq_g0 hE0 (p := fun b => bif isIn ids b then false else true) (d := d) (ids := ids) (dl := []) (vs := vs) (us := us0) (bs := bs) (bs1 := bs1) (bs2 := rnBs z ids gs bs1) rfl rfl hvs hus0 hbs ⟨q2, q3⟩ htd hid (fun i _ => Nat.zero_le _) ?_ b1 ?_ ?_ ?_ (by rw [hlen]; exact hpos) ?_
          · intro i hi
            refine ⟨Nat.zero_le _, fun hm => ?_⟩
            have : isIn ids i = true := by
              unfold isIn
              exact List.any_eq_true.2 ⟨i, hm, Nat.beq_refl i⟩
            rw [this] at hi
            cases hi
          · rw [e0]; exact rnL_ren rfl hE1 h0 hok
          · intro i b b1' h1 h2
            obtain ⟨zz, cs, us1, _, e1, _⟩ := q3 i b1' h2
            subst e1
            rw [e0]
            rcases b2 i false zz us1 b h2 h1 with ⟨hg, e2⟩ | e2
            · subst e2
              obtain ⟨z', cs', e3, e4, _⟩ := hob i _ h1
              cases e3
              refine ⟨rfl, rfl, by rw [idx_nil]; exact Nat.zero_le _, ?_⟩
              rw [idx_nil, List.drop_zero]
              refine ⟨List.length_map _, fun i x y hx hy => ?_⟩
              rw [List.getElem?_map, hy] at hx
              cases hx
              exact .ex _ (exF_gv (e4 hg _ (List.mem_map.2 ⟨y, List.mem_of_getElem? hy, rfl⟩)))
            · subst e2
              obtain ⟨z', cs', e3, _, e4⟩ := hob i _ h1
              cases e3
              refine ⟨rfl, rfl, by rw [idx_nil]; exact Nat.zero_le _, ?_⟩
              rw [idx_nil, List.drop_zero]
              exact rnL_ren rfl hE1 h0 e4
          · intro b hb
            obtain ⟨j, hj⟩ := List.getElem?_of_mem hb
            obtain ⟨z', cs, rfl, _⟩ := hob j b hj
            rfl
          · intro j hj
            refine ⟨?_, idx_nil j⟩
            simp [idx, h0 j hj]
        · cases h
      · cases h
    · cases h
  · cases h
where lq_g0 : GTab ([] : VTabs) := fun x hx => by cases hx

/-- A round of such a loop. -/
noncomputable def RY (P : Program) (call : CallA) (callK : CK (XA × List Value × List Blk)) (LK : LoopK (XA × List Value × List Blk)) (e d b : Nat) (ks : KS) (z : Bool) (gs gx : List Bool) (fn : Func) (k : Nat) (ts : List Nat) (D : List (FuncId × List Value)) (vs : List Value) (bs : List Blk) : Option (XA × List Value × List Blk) :=
  codeG P (glV []) call callK LK (loopN fn k) (stD ts vs fn.ntmps (mkHV [] bs) D) fun x σ => bif tst (σ.ds = D) then (bif Nat.beq σ.n fn.ntmps then (match x with | .normal => finY e ts (upto 0 b) ks z gs d σ fun us bs1 => some (.normal, us, bs1) | x => finY e ts (upto 0 b) .no true gx d σ fun us bs1 => some (x, us, bs1)) else none) else none
/-- Rounds, one after the other: of what there is, whether it goes on, and what there is then. -/
def iterY {Y S : Type} (step : Y → S → Option (Bool × Y × S)) : Nat → Y → S → Option (Y × S)
  | 0, _, _ => none
  | m + 1, y, s => Option.bind (step y s) fun r => bif r.1 then iterY step m r.2.1 r.2.2 else some r.2
theorem loopY {Y S : Type} (hm : P.follows .mixedOrders = true) {call : CallA} (hcall : CallOK P (glV []) call) {callK : CK (XA × List Value × List Blk)} (hK : CKok call callK) {LO : LoopA} {LK : LoopK (XA × List Value × List Blk)} (hL : LKok LO LK) {d b k : Nat} {ks : KS} {z : Bool} {gs gx : List Bool} {fn : Func} {ts : List Nat} {D : List (FuncId × List Value)}
    {bsE : List Blk} (hl : LoopsOK P (glV []) (mkHV [] bsE) LO (loopsOf (loopN fn k))) (htd : ts.Nodup) (hD : dsP D) {x0 : XA} (hx0 : x0 ≠ .normal) (enc encX : Y → List Value) (blk blkX : Y → S → List Blk) (hE0 : ∀ b ∈ bsE, b.ro = false) (hE1 : 0 < bsE.length)
    (hok : ∀ y s, ∀ v ∈ enc y, okY bsE.length (blk y s).length v) (hob : ∀ y s, okB bsE.length gs (blk y s)) (hokX : ∀ y s, ∀ v ∈ encX y, okY bsE.length (blkX y s).length v) (hobX : ∀ y s, okB bsE.length gx (blkX y s))
    (step : Y → S → Option (Bool × Y × S)) (hstep : ∀ y s r, step y s = some r → RY P call callK LK bsE.length d b ks z gs gx fn k ts D (enc y) (blk y s) = some (bif r.1 then (.normal, enc r.2.1, blk r.2.1 r.2.2) else (x0, encX r.2.1, blkX r.2.1 r.2.2)))
    {m : Nat} {y y' : Y} {s s' : S} (h : iterY step m y s = some (y', s')) :
    LoopTri P (glV []) (mkHV [] bsE) (loopN fn k) (stD ts (enc y) fn.ntmps (mkHV [] (blk y s)) D) x0 (stD ts (encX y') fn.ntmps (mkHV [] (blkX y' s')) D) := by
  refine loop_rule (regF_ok hm) hcall hl (X := {q : Nat × Y × S // iterY step q.1 q.2.1 q.2.2 = some (y', s')}) (fun q => stD ts (enc q.1.2.1) fn.ntmps (mkHV [] (blk q.1.2.1 q.1.2.2)) D) (fun q => q.1.1) (fun _ => (x0, stD ts (encX y') fn.ntmps (mkHV [] (blkX y' s')) D)) ?_ ⟨(m, y, s), h⟩
  rintro ⟨⟨m, y, s⟩, h⟩
  dsimp only at h ⊢
  cases m with
  | zero => cases h
  | succ m =>
    unfold iterY at h
    cases hs : step y s with
    | none => rw [hs] at h; cases h
    | some r =>
      rw [hs] at h
      obtain ⟨b, y1, s1⟩ := r
      have hr := hstep y s _ hs
      unfold RY at hr
      rw [codeG_eq hK hL] at hr
      split at hr
      · rename_i x σ hc
        cases ht : tst (σ.ds = D) with
        | false => rw [ht] at hr; cases hr
        | true =>
          rw [ht] at hr
          have hds := of_tst ht
          cases hn : Nat.beq σ.n fn.ntmps with
          | false => rw [hn] at hr; cases hr
          | true =>
            rw [hn] at hr
            have hn' := Nat.eq_of_beq_eq_true hn
            dsimp only [cond_true] at hr
            split at hr
            · rw [finY_nat] at hr
              split at hr
              · rename_i us bs1 hf
                cases b with
                | true =>
                  simp only [Option.some.injEq, Prod.mk.injEq, cond_true] at hr
                  obtain ⟨_, rfl, rfl⟩ := hr
                  have cv := covers_Y (bsE := bsE) hf hE0 hE1 hn' (hok y1 s1) (hob y1 s1) htd (by rw [hds]; exact hD)
                  rw [hds] at cv
                  exact ⟨_, σ, hc, .inl ⟨rfl, ⟨(m, y1, s1), h⟩, Nat.lt_succ_self _, rfl, cv⟩⟩
                | false =>
                  simp only [Option.some.injEq, Prod.mk.injEq, cond_false] at hr
                  exact absurd hr.1.symm hx0
              · cases hr
            · rename_i hxn
              rw [finY_nat] at hr
              split at hr
              · rename_i us bs1 hf
                cases b with
                | true =>
                  simp only [Option.some.injEq, Prod.mk.injEq, cond_true] at hr
                  exact absurd hr.1 (fun e => hxn e)
                | false =>
                  simp only [Option.some.injEq, Prod.mk.injEq, cond_false] at hr
                  obtain ⟨rfl, rfl, rfl⟩ := hr
                  have cv := covers_Y (bsE := bsE) hf hE0 hE1 hn' (hokX y1 s1) (hobX y1 s1) htd (by rw [hds]; exact hD)
                  rw [hds] at cv
                  have e : (y1, s1) = (y', s') := Option.some.inj h
                  cases e
                  exact ⟨_, σ, hc, .inr ⟨hx0, rfl, cv⟩⟩
              · cases hr
      · cases hr

/-- A loop, told by a plain function; what is read of the state where it is entered. -/
noncomputable def lkY {Y S R : Type} (e r : Nat) (ts base : List Nat) (ks : KS) (z : Bool) (gs : List Bool) (d n : Nat) (D : List (FuncId × List Value)) (x0 : XA) (encX : Y → List Value) (blkX : Y → S → List Blk) (dec : List Value → List Blk → Option (Bool × Y × S)) (F : Y → S → Option (Y × S)) (LK : LoopK R) : LoopK R := fun c σ k =>
  bif isReg r c then (bif tst (σ.ds = D) then (bif Nat.beq σ.n n then finY e ts base ks z gs d σ fun us bs1 => match dec us bs1 with
      | some q => Option.bind (F q.2.1 q.2.2) fun q' => bif q.1 then k x0 (stD ts (encX q'.1) n (mkHV [] (blkX q'.1 q'.2)) D) else none
      | none => none else none) else none) else LK c σ k
noncomputable def loY {Y S : Type} (e r : Nat) (ts base : List Nat) (ks : KS) (z : Bool) (gs : List Bool) (d n : Nat) (D : List (FuncId × List Value)) (x0 : XA) (encX : Y → List Value) (blkX : Y → S → List Blk) (dec : List Value → List Blk → Option (Bool × Y × S)) (F : Y → S → Option (Y × S)) (LO : LoopA) : LoopA := fun c σ =>
  lkY e r ts base ks z gs d n D x0 encX blkX dec F (fun c σ k => match LO c σ with
    | some (x, σ') => k x σ'
    | none => none) c σ fun x σ' => some (x, σ')
theorem lkY_ok {Y S R : Type} {e r : Nat} {ts base : List Nat} {ks : KS} {z : Bool} {gs : List Bool} {d n : Nat} {D : List (FuncId × List Value)} {x0 : XA} {encX : Y → List Value} {blkX : Y → S → List Blk} {dec : List Value → List Blk → Option (Bool × Y × S)} {F : Y → S → Option (Y × S)} {LO : LoopA} {LK : LoopK R} (h : LKok LO LK) :
    LKok (loY e r ts base ks z gs d n D x0 encX blkX dec F LO) (lkY e r ts base ks z gs d n D x0 encX blkX dec F LK) := by
  intro c σ k
  unfold loY lkY
  cases isReg r c with
  | false =>
    dsimp only [cond_false]
    rw [h c σ k]
    cases LO c σ <;> rfl
  | true =>
    dsimp only [cond_true]
    cases tst (σ.ds = D) with
    | false => rfl
    | true =>
      dsimp only [cond_true]
      cases Nat.beq σ.n n with
      | false => rfl
      | true =>
        dsimp only [cond_true]
        conv => lhs; rw [finY_nat]
        conv => rhs; rw [finY_nat]
        cases finY e ts base ks z gs d σ (fun u b => some (u, b)) with
        | none => rfl
        | some q =>
          obtain ⟨us, bs1⟩ := q
          dsimp only
          cases dec us bs1 with
          | none => rfl
          | some q =>
            dsimp only
            cases F q.2.1 q.2.2 with
            | none => rfl
            | some q' => cases hq : q.1 <;> simp
theorem loY_ok {Y S : Type} {r : Nat} {ts base : List Nat} {ks : KS} {z : Bool} {gs : List Bool} {d n : Nat} {D : List (FuncId × List Value)} {x0 : XA} {enc encX : Y → List Value} {blk blkX : Y → S → List Blk} {dec : List Value → List Blk → Option (Bool × Y × S)} {F : Y → S → Option (Y × S)} {LO : LoopA} {bsE : List Blk} {cl : List Code}
    (htd : ts.Nodup) (hD : dsP D) (hE0 : ∀ b ∈ bsE, b.ro = false) (hE1 : 0 < bsE.length) (hok : ∀ y s, ∀ v ∈ enc y, okY bsE.length (blk y s).length v) (hob : ∀ y s, okB bsE.length gs (blk y s)) (hdec : ∀ us bs y s, dec us bs = some (true, y, s) → us = enc y ∧ bs = blk y s)
    (hF : ∀ c ∈ cl, isReg r c = true → ∀ y s y' s', F y s = some (y', s') → LoopTri P (glV []) (mkHV [] bsE) c (stD ts (enc y) n (mkHV [] (blk y s)) D) x0 (stD ts (encX y') n (mkHV [] (blkX y' s')) D))
    (hL : LoopsOK P (glV []) (mkHV [] bsE) LO cl) : LoopsOK P (glV []) (mkHV [] bsE) (loY bsE.length r ts base ks z gs d n D x0 encX blkX dec F LO) cl := by
  intro c hc σ x σ' h
  unfold loY lkY at h
  cases hr : isReg r c with
  | false =>
    rw [hr] at h
    dsimp only [cond_false] at h
    split at h
    · rename_i x1 σ1 h1
      cases h
      exact hL c hc σ _ _ h1
    · cases h
  | true =>
    rw [hr] at h
    dsimp only [cond_true] at h
    cases ht : tst (σ.ds = D) with
    | false => rw [ht] at h; cases h
    | true =>
      rw [ht] at h
      have hds := of_tst ht
      cases hn : Nat.beq σ.n n with
      | false => rw [hn] at h; cases h
      | true =>
        rw [hn] at h
        have hn' := Nat.eq_of_beq_eq_true hn
        dsimp only [cond_true] at h
        rw [finY_nat] at h
        split at h
        · rename_i us bs1 hf
          cases hd : dec us bs1 with
          | none => rw [hd] at h; cases h
          | some q =>
            rw [hd] at h
            obtain ⟨b, y, s⟩ := q
            dsimp only at h
            cases hFq : F y s with
            | none => rw [hFq] at h; cases h
            | some q' =>
              rw [hFq] at h
              cases b with
              | false => cases h
              | true =>
                cases h
                obtain ⟨rfl, rfl⟩ := hdec us bs1 y s hd
                have cv := covers_Y (bsE := bsE) hf hE0 hE1 hn' (hok y s) (hob y s) htd (by rw [hds]; exact hD)
                rw [hds] at cv
                exact (hF c hc hr y s q'.1 q'.2 hFq).enter cv
        · cases h

/-- A row's cells as a row of trees. -/
theorem flatN_inj : ∀ {a b : NL}, flatN a = flatN b → a = b := by
  intro a
  induction a with
  | nil => intro b h; cases b with
    | nil => rfl
    | cons => cases h
  | cons s t n k r ihk ihr =>
    intro b h
    cases b with
    | nil => cases h
    | cons s' t' n' k' r' =>
      have h1 : (Value.string s :: .string t :: .int .i64 n :: gslV k.len 0 false (flatN k) :: flatN r) = (Value.string s' :: .string t' :: .int .i64 n' :: gslV k'.len 0 false (flatN k') :: flatN r') := h
      simp only [List.cons.injEq, Value.string.injEq, Value.int.injEq, true_and, gslV, Value.iface.injEq, Value.tuple.injEq, Array.mk.injEq] at h1
      obtain ⟨rfl, rfl, rfl, ⟨_, hk⟩, hr⟩ := h1
      rw [ihk hk, ihr hr]
open Classical in
noncomputable def unN (cs : List Value) : NL := if h : ∃ k, flatN k = cs then h.choose else .nil
theorem unN_flat (k : NL) : unN (flatN k) = k := by
  unfold unN
  have h : ∃ k', flatN k' = flatN k := ⟨k, rfl⟩
  rw [dif_pos h]
  exact flatN_inj h.choose_spec
theorem unN_nil : unN [] = .nil := unN_flat .nil
/-- Are these the cells of a row of trees, so many? -/
def isN (l : Nat) (cs : List Value) : Prop := ∃ k : NL, k.len = l ∧ flatN k = cs
theorem isN_flat (k : NL) : tst (isN k.len (flatN k)) = true := tst_of ⟨k, rfl, rfl⟩
theorem isN_nil : tst (isN 0 []) = true := tst_of ⟨.nil, rfl, rfl⟩
theorem tst_refl {α : Type} (x : α) : tst (x = x) = true := tst_of rfl
theorem exS (s : ByteArray) : exF (.string s) = .string s := rfl
theorem exI (k : IntKind) (n : Int) : exF (.int k n) = .int k n := rfl
theorem exBo (b : Bool) : exF (.bool b) = .bool b := rfl
theorem exKv (k : NL) : exF (kv k) = kv k := rfl
theorem exG (l o : Nat) (cs : List Value) : exF (gslV l o false cs) = gslV l o false cs := rfl
theorem beq00 : Nat.beq 0 0 = true := rfl
theorem beq10 : Nat.beq 1 0 = false := rfl
theorem exFl (k : NL) : List.map exF (flatN k) = flatN k := by
  induction k with
  | nil => rfl
  | cons s t n k r _ ih => show _ :: _ :: _ :: _ :: List.map exF (flatN r) = _; rw [ih]; rfl
theorem exSn (k : NL) (s t : ByteArray) (n : Int) (c : NL) : List.map exF (flatN k ++ [.string s, .string t, .int .i64 n, kv c]) = flatN (k.snoc s t n c) := by
  rw [List.map_append, exFl, flatN_snoc]; rfl
theorem exSx (k : NL) (s t : ByteArray) (n : Int) (c : NL) : List.map exF (flatN k ++ [.string s, .string t, .int .i64 n, kx c]) = flatN (k.snoc s t n c) := by
  rw [List.map_append, exFl, flatN_snoc]; rfl
theorem snF (k : NL) (s t : ByteArray) (n : Int) (c : NL) : flatN k ++ [.string s, .string t, .int .i64 n, kv c] = flatN (k.snoc s t n c) := (flatN_snoc k s t n c).symm
theorem snV (k : NL) (s t : ByteArray) (n : Int) (c : NL) : gslV (k.len + 1) 0 false (flatN (k.snoc s t n c)) = kv (k.snoc s t n c) := by unfold kv; rw [NL.snoc_len]
theorem tst_fl (k : NL) : tst (∀ (x : Value), x ∈ flatN k → GVal x) = true := tst_of (flatN_g k)
theorem tst_fs (k : NL) (s t : ByteArray) (n : Int) (c : NL) : tst (∀ (x : Value), x ∈ flatN k ++ [.string s, .string t, .int .i64 n, kv c] → GVal x) = true := tst_of (by rw [snF]; exact flatN_g _)
theorem tst_fsx (k : NL) (s t : ByteArray) (n : Int) (c : NL) : tst (∀ (x : Value), x ∈ flatN k ++ [.string s, .string t, .int .i64 n, kx c] → GVal x) = true := tst_of fun x hx => by
  rcases List.mem_append.1 hx with h | h
  · exact flatN_g k x h
  · simp only [List.mem_cons, List.not_mem_nil, or_false] at h
    rcases h with rfl | rfl | rfl | rfl
    · exact .plain _ rfl
    · exact .plain _ rfl
    · exact .plain _ rfl
    · exact kx_g c
theorem tst_n1x (s t : ByteArray) (n : Int) (k : NL) : tst (∀ (x : Value), x ∈ [.string s, .string t, .int .i64 n, kx k] → GVal x) = true := tst_fsx .nil s t n k
theorem fl6 (k : NL) : Nat.beq (0 + NL.len k * 4) (List.length (flatN k)) = true := by rw [flatN_len, show 0 + NL.len k * 4 = 4 * NL.len k by omega]; exact Nat.beq_refl _
/-- Loops that make a row of trees: a node and what the block holds. -/
abbrev YL := ByteArray × ByteArray × Int × NL
abbrev SI := Int × Int × Int × Int
abbrev pt (j : Nat) : Value := .pointer (some ⟨j, 0, none⟩)
abbrev bL (L : List Wd) (i d e a : Int) : Blk := .row false 1 [gslV L.length 0 false (flatW L), .int .i64 i, .int .i64 d, .int .i64 e, .int .i64 a]
abbrev bN (s t : ByteArray) (n : Int) (v : Value) : Blk := .row false 1 [.string s, .string t, .int .i64 n, v]
def kidsV (j : Nat) : NL → Value
  | .nil => .slice none 0 0
  | .cons s t n k r => .slice (some ⟨j, 0, none⟩) (NL.cons s t n k r).len 1
def kidsB : NL → List Blk
  | .nil => []
  | .cons s t n k r => [.row false 4 (flatN (.cons s t n k r))]
def encL : YL → List Value := fun _ => [pt 0, pt 1, pt 2]
def blkL (L : List Wd) (y : YL) (s : SI) : List Blk := bL L s.1 s.2.1 s.2.2.1 s.2.2.2 :: bN b0 b0 0 (.slice none 0 0) :: bN y.1 y.2.1 y.2.2.1 (kidsV 3 y.2.2.2) :: kidsB y.2.2.2
def blkX (L : List Wd) (y : YL) (s : SI) : List Blk := [bL L s.1 s.2.1 s.2.2.1 s.2.2.2, bN b0 b0 0 (kv .nil), bN y.1 y.2.1 y.2.2.1 (kv y.2.2.2)]
def enL (x0 : XA) (L : List Wd) (r : Bool × YL × SI) : XA × List Value × List Blk := bif r.1 then (.normal, encL r.2.1, blkL L r.2.1 r.2.2) else (x0, encL r.2.1, blkX L r.2.1 r.2.2)
def ofL (x0 : XA) (L : List Wd) (o : Option (Bool × YL × SI)) : Option (XA × List Value × List Blk) := o.map (enL x0 L)
theorem oL_x (q : Nat) (L : List Wd) (s t : ByteArray) (n : Int) (k : NL) (i d e a : Int) : some (XA.exit q, [pt 0, pt 1, pt 2], [bL L i d e a, bN b0 b0 0 (kv .nil), bN s t n (kv k)]) = ofL (.exit q) L (some (false, (s, t, n, k), (i, d, e, a))) := rfl
theorem oL_c (x0 : XA) (L : List Wd) (s t : ByteArray) (n : Int) (k : NL) (s' t' : ByteArray) (n' : Int) (k' : NL) (i d e a : Int) : some (XA.normal, [pt 0, pt 1, pt 2], [bL L i d e a, bN b0 b0 0 (.slice none 0 0), bN s t n (.slice (some ⟨3, 0, none⟩) (k.len + 1) 1), .row false 4 (flatN (k.snoc s' t' n' k'))]) = ofL x0 L (some (true, (s, t, n, k.snoc s' t' n' k'), (i, d, e, a))) := by
  have h : kidsV 3 (k.snoc s' t' n' k') = .slice (some ⟨3, 0, none⟩) (k.len + 1) 1 ∧ kidsB (k.snoc s' t' n' k') = [.row false 4 (flatN (k.snoc s' t' n' k'))] := by
    cases k with
    | nil => exact ⟨rfl, rfl⟩
    | cons a b c d r =>
      refine ⟨?_, rfl⟩
      show Value.slice _ (NL.len (r.snoc s' t' n' k') + 1) 1 = _
      rw [NL.snoc_len]; rfl
  unfold ofL enL blkL
  simp only [Option.map_some, cond_true]
  rw [h.1, h.2]; rfl
theorem oL_n0 (L : List Wd) (s t : ByteArray) (n : Int) (s' t' : ByteArray) (n' : Int) (k' : NL) (i d e a : Int) : some (XA.normal, [pt 0, pt 1, pt 2], [bL L i d e a, bN b0 b0 0 (.slice none 0 0), bN s t n (.slice (some ⟨3, 0, none⟩) 1 1), .row false 4 [.string s', .string t', .int .i64 n', kv k']]) = ofL (.exit 0) L (some (true, (s, t, n, .cons s' t' n' k' .nil), (i, d, e, a))) := rfl
theorem oL_c0 (L : List Wd) (s t : ByteArray) (n : Int) (k : NL) (s' t' : ByteArray) (n' : Int) (k' : NL) (i d e a : Int) : some (XA.normal, [pt 0, pt 1, pt 2], [bL L i d e a, bN b0 b0 0 (.slice none 0 0), bN s t n (.slice (some ⟨3, 0, none⟩) (k.len + 1) 1), .row false 4 (flatN (k.snoc s' t' n' k'))]) = ofL (.exit 0) L (some (true, (s, t, n, k.snoc s' t' n' k'), (i, d, e, a))) := oL_c _ L s t n k s' t' n' k' i d e a
theorem oL_n1 (L : List Wd) (s t : ByteArray) (n : Int) (s' t' : ByteArray) (n' : Int) (k' : NL) (i d e a : Int) : some (XA.normal, [pt 0, pt 1, pt 2], [bL L i d e a, bN b0 b0 0 (.slice none 0 0), bN s t n (.slice (some ⟨3, 0, none⟩) 1 1), .row false 4 [.string s', .string t', .int .i64 n', kv k']]) = ofL (.exit 1) L (some (true, (s, t, n, .cons s' t' n' k' .nil), (i, d, e, a))) := rfl
theorem oL_c1 (L : List Wd) (s t : ByteArray) (n : Int) (k : NL) (s' t' : ByteArray) (n' : Int) (k' : NL) (i d e a : Int) : some (XA.normal, [pt 0, pt 1, pt 2], [bL L i d e a, bN b0 b0 0 (.slice none 0 0), bN s t n (.slice (some ⟨3, 0, none⟩) (k.len + 1) 1), .row false 4 (flatN (k.snoc s' t' n' k'))]) = ofL (.exit 1) L (some (true, (s, t, n, k.snoc s' t' n' k'), (i, d, e, a))) := oL_c _ L s t n k s' t' n' k' i d e a
theorem oL_bind {x0 : XA} (L : List Wd) (m : Option PR) (k : PR → Option (Bool × YL × SI)) : (Option.bind m fun r => ofL x0 L (k r)) = ofL x0 L (Option.bind m k) := by cases m <;> rfl
theorem oL_cond {x0 : XA} (L : List Wd) (c : Bool) (x y : Option (Bool × YL × SI)) : (bif c then ofL x0 L x else ofL x0 L y) = ofL x0 L (bif c then x else y) := by cases c <;> rfl
theorem oL_condN {x0 : XA} (L : List Wd) (c : Bool) (x : Option (Bool × YL × SI)) : (bif c then ofL x0 L x else none) = ofL x0 L (bif c then x else none) := by cases c <;> rfl
theorem oL_condM {x0 : XA} (L : List Wd) (c : Bool) (x : Option (Bool × YL × SI)) : (bif c then none else ofL x0 L x) = ofL x0 L (bif c then none else x) := by cases c <;> rfl
theorem exFu (f : Fn) (a b : Array Value) : exF (.func f a b) = .func f a b := rfl
theorem nfSn (k : NL) (s t : ByteArray) (n : Int) (c : NL) : List.map nf (flatN k ++ [.string s, .string t, .int .i64 n, kv c]) = flatN (k.snoc s t n c) := by
  rw [List.map_append, fl4, flatN_snoc]; rfl
theorem nfSx (k : NL) (s t : ByteArray) (n : Int) (c : NL) : List.map nf (flatN k ++ [.string s, .string t, .int .i64 n, kx c]) = flatN (k.snoc s t n c) := by
  rw [List.map_append, fl4, flatN_snoc]; rfl
theorem kidsV_snoc (j : Nat) (k : NL) (s t : ByteArray) (n : Int) (c : NL) : kidsV j (k.snoc s t n c) = .slice (some ⟨j, 0, none⟩) (k.len + 1) 1 ∧ kidsB (k.snoc s t n c) = [.row false 4 (flatN (k.snoc s t n c))] := by
  cases k with
  | nil => exact ⟨rfl, rfl⟩
  | cons a b c' d r =>
    refine ⟨?_, rfl⟩
    show Value.slice _ (NL.len (r.snoc s t n c) + 1) 1 = _
    rw [NL.snoc_len]; rfl
/-- Leaves, told. -/
def ofE {A B : Type} (f : A → B) (o : Option A) : Option B := o.map f
theorem oE_bind {A B C : Type} (f : A → B) (m : Option C) (k : C → Option A) : (Option.bind m fun r => ofE f (k r)) = ofE f (Option.bind m k) := by cases m <;> rfl
theorem oE_cond {A B : Type} (f : A → B) (c : Bool) (x y : Option A) : (bif c then ofE f x else ofE f y) = ofE f (bif c then x else y) := by cases c <;> rfl
theorem oE_condN {A B : Type} (f : A → B) (c : Bool) (x : Option A) : (bif c then ofE f x else none) = ofE f (bif c then x else none) := by cases c <;> rfl
theorem oE_condM {A B : Type} (f : A → B) (c : Bool) (x : Option A) : (bif c then none else ofE f x) = ofE f (bif c then none else x) := by cases c <;> rfl
/-- 'many' over a function of the block. -/
def encM (g : FuncId) (k : NL) : List Value := [pt 0, fv g, .slice none 0 0, kidsV 1 k]
def encMX (g : FuncId) (k : NL) : List Value := [pt 0, fv g, kv .nil, kv k]
def blkM (L : List Wd) (k : NL) (s : SI) : List Blk := bL L s.1 s.2.1 s.2.2.1 s.2.2.2 :: kidsB k
def blkMX (L : List Wd) (k : NL) (s : SI) : List Blk := [bL L s.1 s.2.1 s.2.2.1 s.2.2.2]
def enM (g : FuncId) (L : List Wd) (r : Bool × NL × SI) : XA × List Value × List Blk := bif r.1 then (.normal, encM g r.2.1, blkM L r.2.1 r.2.2) else (.exit 0, encMX g r.2.1, blkMX L r.2.1 r.2.2)
theorem oM_x (g : FuncId) (L : List Wd) (k : NL) (i d e a : Int) : some (XA.exit 0, [pt 0, fv g, kv .nil, kv k], [bL L i d e a]) = ofE (enM g L) (some (false, k, (i, d, e, a))) := rfl
theorem oM_n (g : FuncId) (L : List Wd) (s' t' : ByteArray) (n' : Int) (k' : NL) (i d e a : Int) : some (XA.normal, [pt 0, fv g, .slice none 0 0, .slice (some ⟨1, 0, none⟩) 1 1], [bL L i d e a, .row false 4 [.string s', .string t', .int .i64 n', kv k']]) = ofE (enM g L) (some (true, .cons s' t' n' k' .nil, (i, d, e, a))) := rfl
theorem oM_c (g : FuncId) (L : List Wd) (k : NL) (s' t' : ByteArray) (n' : Int) (k' : NL) (i d e a : Int) : some (XA.normal, [pt 0, fv g, .slice none 0 0, .slice (some ⟨1, 0, none⟩) (k.len + 1) 1], [bL L i d e a, .row false 4 (flatN (k.snoc s' t' n' k'))]) = ofE (enM g L) (some (true, k.snoc s' t' n' k', (i, d, e, a))) := by
  obtain ⟨h1, h2⟩ := kidsV_snoc 1 k s' t' n' k'
  unfold ofE enM encM blkM
  simp only [Option.map_some, cond_true]
  rw [h1, h2]
/-- 'many' over a function literal that holds the block in a variable. -/
abbrev fc (g : FuncId) : Value := .func (.func g) ⟨[]⟩ ⟨[pt 1]⟩
def encC (y : YL) : List Value := [pt 0, fc 48, .slice none 0 0, kidsV 3 y.2.2.2]
def encCX (y : YL) : List Value := [pt 0, fc 48, kv .nil, kv y.2.2.2]
def blkC (L : List Wd) (y : YL) (s : SI) : List Blk := bL L s.1 s.2.1 s.2.2.1 s.2.2.2 :: .row false 1 [pt 0] :: bN y.1 y.2.1 y.2.2.1 (.slice none 0 0) :: kidsB y.2.2.2
def blkCX (L : List Wd) (y : YL) (s : SI) : List Blk := [bL L s.1 s.2.1 s.2.2.1 s.2.2.2, .row false 1 [pt 0], bN y.1 y.2.1 y.2.2.1 (kv .nil)]
def enC (L : List Wd) (r : Bool × YL × SI) : XA × List Value × List Blk := bif r.1 then (.normal, encC r.2.1, blkC L r.2.1 r.2.2) else (.exit 0, encCX r.2.1, blkCX L r.2.1 r.2.2)
theorem oC_x (L : List Wd) (s t : ByteArray) (n : Int) (k : NL) (i d e a : Int) : some (XA.exit 0, [pt 0, fc 48, kv .nil, kv k], [bL L i d e a, .row false 1 [pt 0], bN s t n (kv .nil)]) = ofE (enC L) (some (false, (s, t, n, k), (i, d, e, a))) := rfl
theorem oC_n (L : List Wd) (s t : ByteArray) (n : Int) (s' t' : ByteArray) (n' : Int) (k' : NL) (i d e a : Int) : some (XA.normal, [pt 0, fc 48, .slice none 0 0, .slice (some ⟨3, 0, none⟩) 1 1], [bL L i d e a, .row false 1 [pt 0], bN s t n (.slice none 0 0), .row false 4 [.string s', .string t', .int .i64 n', kv k']]) = ofE (enC L) (some (true, (s, t, n, .cons s' t' n' k' .nil), (i, d, e, a))) := rfl
theorem oC_c (L : List Wd) (s t : ByteArray) (n : Int) (k : NL) (s' t' : ByteArray) (n' : Int) (k' : NL) (i d e a : Int) : some (XA.normal, [pt 0, fc 48, .slice none 0 0, .slice (some ⟨3, 0, none⟩) (k.len + 1) 1], [bL L i d e a, .row false 1 [pt 0], bN s t n (.slice none 0 0), .row false 4 (flatN (k.snoc s' t' n' k'))]) = ofE (enC L) (some (true, (s, t, n, k.snoc s' t' n' k'), (i, d, e, a))) := by
  obtain ⟨h1, h2⟩ := kidsV_snoc 3 k s' t' n' k'
  unfold ofE enC encC blkC
  simp only [Option.map_some, cond_true]
  rw [h1, h2]
/-- Rows of operators. -/
abbrev YR := YL × Int
def encR (m : Int) (g : FuncId) (c : List ByteArray) (y : YR) : List Value := [pt 0, .int .i64 m, fv g, xv c, pt 1, pt 2, .int .i64 y.2]
def blkR (L : List Wd) (y : YR) (s : SI) : List Blk := [bL L s.1 s.2.1 s.2.2.1 s.2.2.2, bN b0 b0 0 (kv .nil), bN y.1.1 y.1.2.1 y.1.2.2.1 (kv y.1.2.2.2)]
def enR (m : Int) (g : FuncId) (c : List ByteArray) (L : List Wd) (r : Bool × YR × SI) : XA × List Value × List Blk := (bif r.1 then .normal else .exit 0, encR m g c r.2.1, blkR L r.2.1 r.2.2)
/-- What stands behind a whole. -/
def encP (y : YL) : List Value := [pt 0, pt 1, pt 2]
def blkP (L : List Wd) (y : YL) (s : SI) : List Blk := [bL L s.1 s.2.1 s.2.2.1 s.2.2.2, bN b0 b0 0 (kv .nil), bN y.1 y.2.1 y.2.2.1 (kv y.2.2.2)]
def blkPX (L : List Wd) (y : YL) (s : SI) : List Blk := [bL L s.1 s.2.1 s.2.2.1 s.2.2.2, bN y.1 y.2.1 y.2.2.1 (kv y.2.2.2), bN y.1 y.2.1 y.2.2.1 (kv y.2.2.2)]
def enP (L : List Wd) (r : Bool × YL × SI) : XA × List Value × List Blk := bif r.1 then (.normal, encP r.2.1, blkP L r.2.1 r.2.2) else (.ret, encP r.2.1, blkPX L r.2.1 r.2.2)
theorem oP_x (L : List Wd) (s t : ByteArray) (n : Int) (k : NL) (i d e a : Int) : some (XA.ret, [pt 0, pt 1, pt 2], [bL L i d e a, bN s t n (kv k), bN s t n (kv k)]) = ofE (enP L) (some (false, (s, t, n, k), (i, d, e, a))) := rfl
theorem oP_n (L : List Wd) (s t : ByteArray) (n : Int) (k : NL) (i d e a : Int) : some (XA.normal, [pt 0, pt 1, pt 2], [bL L i d e a, bN b0 b0 0 (kv .nil), bN s t n (kv k)]) = ofE (enP L) (some (true, (s, t, n, k), (i, d, e, a))) := rfl
-- these name no row but those that are kept
theorem gvS (s : ByteArray) : GVal (.string s) := .plain _ rfl
theorem gvI (n : Int) : GVal (.int .i64 n) := .plain _ rfl
theorem gvN : GVal (.slice none 0 0) := .plain _ rfl
theorem bL_g (L : List Wd) (i d e a : Int) : ∀ x ∈ [gslV L.length 0 false (flatW L), .int .i64 i, .int .i64 d, .int .i64 e, .int .i64 a], GVal x := csP_g L i d e a
theorem bN_g (s t : ByteArray) (n : Int) {v : Value} (hv : GVal v) : ∀ x ∈ [.string s, .string t, .int .i64 n, v], GVal x := by
  intro x hx
  simp only [List.mem_cons, List.not_mem_nil, or_false] at hx
  rcases hx with rfl | rfl | rfl | rfl
  · exact gvS _
  · exact gvS _
  · exact gvI _
  · exact hv
theorem okB_nil {e : Nat} {gs : List Bool} {n : Nat} : ∀ (j : Nat) (b : Blk), ([] : List Blk)[j]? = some b → ∃ z cs, b = .row false z cs ∧ (gs[j]? = some true → ∀ v ∈ cs, GVal v) ∧ ∀ v ∈ cs, okY e n v := fun j b h => by simp at h
theorem okB_g {e n : Nat} {g : Bool} {gs : List Bool} {z : Nat} {cs : List Value} {bs : List Blk} (h : ∀ v ∈ cs, GVal v) (ih : ∀ (j : Nat) (b : Blk), bs[j]? = some b → ∃ z cs, b = .row false z cs ∧ (gs[j]? = some true → ∀ v ∈ cs, GVal v) ∧ ∀ v ∈ cs, okY e n v) :
    ∀ (j : Nat) (b : Blk), (Blk.row false z cs :: bs)[j]? = some b → ∃ z cs, b = .row false z cs ∧ ((g :: gs)[j]? = some true → ∀ v ∈ cs, GVal v) ∧ ∀ v ∈ cs, okY e n v := by
  intro j b hb
  cases j with
  | zero => cases hb; exact ⟨z, cs, rfl, fun _ => h, fun v hv => .inl (h v hv)⟩
  | succ j => exact ih j b (by simpa using hb)
theorem okB_y {e n : Nat} {gs : List Bool} {z : Nat} {cs : List Value} {bs : List Blk} (h : ∀ v ∈ cs, okY e n v) (ih : ∀ (j : Nat) (b : Blk), bs[j]? = some b → ∃ z cs, b = .row false z cs ∧ (gs[j]? = some true → ∀ v ∈ cs, GVal v) ∧ ∀ v ∈ cs, okY e n v) :
    ∀ (j : Nat) (b : Blk), (Blk.row false z cs :: bs)[j]? = some b → ∃ z cs, b = .row false z cs ∧ ((false :: gs)[j]? = some true → ∀ v ∈ cs, GVal v) ∧ ∀ v ∈ cs, okY e n v := by
  intro j b hb
  cases j with
  | zero => cases hb; exact ⟨z, cs, rfl, fun h => by simp at h, h⟩
  | succ j => exact ih j b (by simpa using hb)
theorem okY_pt {e n j : Nat} (h : j < n) : okY e n (pt j) := .inr (.inl ⟨j, h, rfl⟩)
theorem bN_y {e n : Nat} (s t : ByteArray) (m : Int) {v : Value} (hv : okY e n v) : ∀ x ∈ [.string s, .string t, .int .i64 m, v], okY e n x := by
  intro x hx
  simp only [List.mem_cons, List.not_mem_nil, or_false] at hx
  rcases hx with rfl | rfl | rfl | rfl
  · exact .inl (gvS _)
  · exact .inl (gvS _)
  · exact .inl (gvI _)
  · exact hv
theorem kidsV_y {e n j : Nat} (k : NL) (h : k ≠ .nil → j < n) : okY e n (kidsV j k) := by
  cases k with
  | nil => exact .inl gvN
  | cons s t m k r => exact .inr (.inr (.inl ⟨j, _, 1, h (by simp), rfl⟩))
theorem kidsB_y {e n : Nat} {g : Bool} (k : NL) : ∀ (j : Nat) (b : Blk), (kidsB k)[j]? = some b → ∃ z cs, b = .row false z cs ∧ ([g][j]? = some true → ∀ v ∈ cs, GVal v) ∧ ∀ v ∈ cs, okY e n v := by
  cases k with
  | nil => exact fun j b h => by simp [kidsB] at h
  | cons s t m k r => exact okB_g (flatN_g _) okB_nil
theorem kidsB_len {k : NL} (h : k ≠ .nil) : (kidsB k).length = 1 := by
  cases k with
  | nil => exact absurd rfl h
  | cons s t m k r => rfl
theorem okL (L : List Wd) (y : YL) (s : SI) : ∀ v ∈ encL y, okY 1 (blkL L y s).length v := by
  intro v hv
  simp only [encL, List.mem_cons, List.not_mem_nil, or_false] at hv
  rcases hv with rfl | rfl | rfl <;> exact okY_pt (by simp [blkL])
theorem obL (L : List Wd) (y : YL) (s : SI) : okB 1 [true, false, false, true] (blkL L y s) := by
  unfold okB
  generalize hn : (blkL L y s).length = n
  refine okB_g (bL_g L _ _ _ _) (okB_g (bN_g _ _ _ gvN) (okB_y (bN_y _ _ _ (kidsV_y _ fun h => ?_)) (kidsB_y _)))
  rw [← hn]
  simp [blkL, kidsB_len h]
theorem okLX (L : List Wd) (y : YL) (s : SI) : ∀ v ∈ encL y, okY 1 (blkX L y s).length v := by
  intro v hv
  simp only [encL, List.mem_cons, List.not_mem_nil, or_false] at hv
  rcases hv with rfl | rfl | rfl <;> exact okY_pt (by simp [blkX])
theorem obLX (L : List Wd) (y : YL) (s : SI) : okB 1 [true, false, false] (blkX L y s) := by
  unfold okB
  exact okB_g (bL_g L _ _ _ _) (okB_g (bN_g _ _ _ (kv_g _)) (okB_g (bN_g _ _ _ (kv_g _)) okB_nil))
theorem okM (g : FuncId) (L : List Wd) (k : NL) (s : SI) : ∀ v ∈ encM g k, okY 1 (blkM L k s).length v := by
  intro v hv
  simp only [encM, List.mem_cons, List.not_mem_nil, or_false] at hv
  rcases hv with rfl | rfl | rfl | rfl
  · exact okY_pt (by simp [blkM])
  · exact .inr (.inr (.inr (.inl ⟨g, rfl⟩)))
  · exact .inl gvN
  · exact kidsV_y _ fun h => by simp [blkM, kidsB_len h]
theorem obM (L : List Wd) (k : NL) (s : SI) : okB 1 [true, true] (blkM L k s) := by
  unfold okB
  generalize (blkM L k s).length = n
  exact okB_g (bL_g L _ _ _ _) (kidsB_y _)
theorem okMX (g : FuncId) (L : List Wd) (k : NL) (s : SI) : ∀ v ∈ encMX g k, okY 1 (blkMX L k s).length v := by
  intro v hv
  simp only [encMX, List.mem_cons, List.not_mem_nil, or_false] at hv
  rcases hv with rfl | rfl | rfl | rfl
  · exact okY_pt (by simp [blkMX])
  · exact .inr (.inr (.inr (.inl ⟨g, rfl⟩)))
  · exact .inl (kv_g _)
  · exact .inl (kv_g _)
theorem obMX (L : List Wd) (k : NL) (s : SI) : okB 1 [true] (blkMX L k s) := by
  unfold okB
  exact okB_g (bL_g L _ _ _ _) okB_nil
theorem okC (L : List Wd) (y : YL) (s : SI) : ∀ v ∈ encC y, okY 3 (blkC L y s).length v := by
  intro v hv
  simp only [encC, List.mem_cons, List.not_mem_nil, or_false] at hv
  rcases hv with rfl | rfl | rfl | rfl
  · exact okY_pt (by simp [blkC])
  · exact .inr (.inr (.inr (.inr ⟨48, 1, by decide, rfl⟩)))
  · exact .inl gvN
  · exact kidsV_y _ fun h => by simp [blkC, kidsB_len h]
theorem obC (L : List Wd) (y : YL) (s : SI) : okB 3 [true, false, false, true] (blkC L y s) := by
  unfold okB
  have h0 : 0 < (blkC L y s).length := by simp [blkC]
  generalize (blkC L y s).length = n at h0
  refine okB_g (bL_g L _ _ _ _) (okB_y (fun v hv => ?_) (okB_g (bN_g _ _ _ gvN) (kidsB_y _)))
  rw [List.mem_singleton.1 hv]; exact okY_pt h0
theorem okCX (L : List Wd) (y : YL) (s : SI) : ∀ v ∈ encCX y, okY 3 (blkCX L y s).length v := by
  intro v hv
  simp only [encCX, List.mem_cons, List.not_mem_nil, or_false] at hv
  rcases hv with rfl | rfl | rfl | rfl
  · exact okY_pt (by simp [blkCX])
  · exact .inr (.inr (.inr (.inr ⟨48, 1, by decide, rfl⟩)))
  · exact .inl (kv_g _)
  · exact .inl (kv_g _)
theorem obCX (L : List Wd) (y : YL) (s : SI) : okB 3 [true, false, false] (blkCX L y s) := by
  unfold okB
  refine okB_g (bL_g L _ _ _ _) (okB_y (fun v hv => ?_) (okB_g (bN_g _ _ _ (kv_g _)) okB_nil))
  rw [List.mem_singleton.1 hv]; exact okY_pt (by simp [blkCX])
theorem okR (m : Int) (g : FuncId) (c : List ByteArray) (L : List Wd) (y : YR) (s : SI) : ∀ v ∈ encR m g c y, okY 1 (blkR L y s).length v := by
  intro v hv
  simp only [encR, List.mem_cons, List.not_mem_nil, or_false] at hv
  rcases hv with rfl | rfl | rfl | rfl | rfl | rfl | rfl
  · exact okY_pt (by simp [blkR])
  · exact .inl (gvI _)
  · exact .inr (.inr (.inr (.inl ⟨g, rfl⟩)))
  · exact .inl (.gsl _ _ _ _ fun x hx => by obtain ⟨y, _, rfl⟩ := List.mem_map.1 hx; exact gvS _)
  · exact okY_pt (by simp [blkR])
  · exact okY_pt (by simp [blkR])
  · exact .inl (gvI _)
theorem obR (L : List Wd) (y : YR) (s : SI) : okB 1 [true, false, false] (blkR L y s) := by
  unfold okB
  exact okB_g (bL_g L _ _ _ _) (okB_g (bN_g _ _ _ (kv_g _)) (okB_g (bN_g _ _ _ (kv_g _)) okB_nil))
theorem okP (L : List Wd) (y : YL) (s : SI) : ∀ v ∈ encP y, okY 1 (blkP L y s).length v := okLX L y s
theorem obP (L : List Wd) (y : YL) (s : SI) : okB 1 [true, false, false] (blkP L y s) := obLX L y s
theorem okPX (L : List Wd) (y : YL) (s : SI) : ∀ v ∈ encP y, okY 1 (blkPX L y s).length v := okLX L y s
theorem obPX (L : List Wd) (y : YL) (s : SI) : okB 1 [true, false, false] (blkPX L y s) := by
  unfold okB
  exact okB_g (bL_g L _ _ _ _) (okB_g (bN_g _ _ _ (kv_g _)) (okB_g (bN_g _ _ _ (kv_g _)) okB_nil))

/-- What is answered, all that it asks handed on. -/
noncomputable def resKK {R : Type} (P : Program) (T : Tr Value) (h : AH) : List ResultVar → (List Value → Option R) → Option R
  | [], k => k []
  | .tmp t :: r, k => match T.get t with
    | some v => resKK P T h r fun vs => k (v :: vs)
    | none => none
  | .cell a t :: r, k => match T.get a with
    | some (.pointer (some ⟨b, off, none⟩)) => loadK P h t b off fun v => resKK P T h r fun vs => k (v :: vs)
    | _ => none
theorem resKK_eq {R : Type} (P : Program) (T : Tr Value) (h : AH) : ∀ (l : List ResultVar) (k : List Value → Option R), resKK P T h l k = match resA P T h l with
    | some vs => k vs
    | none => none := by
  intro l
  induction l with
  | nil => intro k; rfl
  | cons x r ih =>
    intro k
    cases x with
    | tmp t =>
      simp only [resKK, resA]
      cases T.get t with
      | none => rfl
      | some v =>
        dsimp only
        rw [ih]
        cases resA P T h r <;> rfl
    | cell a t =>
      simp only [resKK, resA]
      cases T.get a with
      | none => rfl
      | some v =>
        cases v with
        | pointer p =>
          cases p with
          | none => rfl
          | some p =>
            obtain ⟨b, off, sp⟩ := p
            cases sp with
            | some _ => rfl
            | none =>
              dsimp only
              rw [loadK_eq]
              cases loadA P h t b off with
              | none => rfl
              | some v =>
                dsimp only
                rw [ih]
                cases resA P T h r <;> rfl
        | _ => rfl
noncomputable def finKK {R : Type} (P : Program) (fn : Func) (x : XA) (σ : St) (k : Value → AH → Option R) : Option R :=
  match x with
  | .exit _ => none
  | _ => match σ.ds with
    | [] => resKK P σ.T σ.h fn.results.toList fun vs => k (tupA vs) σ.h
    | _ :: _ => none
theorem finKK_eq {R : Type} (P : Program) (fn : Func) (x : XA) (σ : St) (k : Value → AH → Option R) : finKK P fn x σ k = match finK P fn x σ with
    | some (v, h') => k v h'
    | none => none := by
  unfold finKK finK
  cases x with
  | exit id => rfl
  | normal =>
    dsimp only
    cases σ.ds with
    | nil => dsimp only; rw [resKK_eq]; cases resA P σ.T σ.h fn.results.toList <;> rfl
    | cons a b => rfl
  | ret =>
    dsimp only
    cases σ.ds with
    | nil => dsimp only; rw [resKK_eq]; cases resA P σ.T σ.h fn.results.toList <;> rfl
    | cons a b => rfl
/-- Two ways to write the heap that a function found. -/
theorem loopTri_h {h : AH} {bs : List Blk} (hn : h.next = bs.length) (hp : picksH (upto 0 bs.length) h = some bs) {c : Code} {σ σ' : St} {x : XA} (ht : LoopTri P (glV []) (mkHV [] bs) c σ x σ') : LoopTri P (glV []) h c σ x σ' := by
  intro μE wE μ a w hE hs hf
  have hnx : (mkHV [] bs).next = h.next := by rw [hn]; show 0 + bs.length = _; exact Nat.zero_add _
  have g1 : ∀ i b, (mkHV [] bs).get i = some b → h.get i = some b := fun i b hb => by
    rw [mkHV_get, List.length_nil, if_pos (Nat.zero_le _)] at hb
    have hb' : bs[i]? = some b := hb
    obtain ⟨i', h1, h2⟩ := (picksH_get hp).2 i b hb'
    have hlt := (List.getElem?_eq_some_iff.1 hb').1
    unfold upto at h1
    rw [List.getElem?_range' hlt] at h1
    cases h1
    simpa using h2
  have g2 : ∀ i b, h.get i = some b → (mkHV [] bs).get i = some b := fun i b hb => by
    have hlt : i < bs.length := by rw [← hn]; exact hE.lt i b hb
    have h1 : (mkHV [] bs).get i = some bs[i] := by
      rw [mkHV_get, List.length_nil, if_pos (Nat.zero_le _)]
      exact List.getElem?_eq_getElem hlt
    have := g1 i _ h1
    rw [hb] at this
    rw [h1, ← this]
  have w1 : ∀ (μ : Mu) B, Wr μ (mkHV [] bs) B ↔ Wr μ h B := fun μ B => ⟨fun ⟨i, b, hi, hr, hb⟩ => ⟨i, b, g1 i b hi, hr, hb⟩, fun ⟨i, b, hi, hr, hb⟩ => ⟨i, b, g2 i b hi, hr, hb⟩⟩
  have fr : ∀ {μ' : Mu} {h' : AH} {w' : World}, Fr μE h wE μ' h' w' ↔ Fr μE (mkHV [] bs) wE μ' h' w' := fun {μ' h' w'} => by
    constructor
    · intro f
      exact ⟨f.os, f.tape, f.output, f.size, by rw [hnx]; exact f.next, by rw [hnx]; exact ⟨f.ext.loc, f.ext.fr, fun B C hB => by rw [w1]; exact f.ext.new B C hB⟩, fun B hB hw => f.keep B hB (fun h0 => hw ((w1 μE B).2 h0)), fun B hB => by rw [w1]; exact f.own B hB, fun i b hi hr => f.ro i b (g1 i b hi) hr, fun i b hi hr => g2 i b (f.ron i b hi hr)⟩
    · intro f
      exact ⟨f.os, f.tape, f.output, f.size, by rw [← hnx]; exact f.next, by rw [← hnx]; exact ⟨f.ext.loc, f.ext.fr, fun B C hB => by rw [← w1]; exact f.ext.new B C hB⟩, fun B hB hw => f.keep B hB (fun h0 => hw ((w1 μE B).1 h0)), fun B hB => by rw [← w1]; exact f.own B hB, fun i b hi hr => f.ro i b (g2 i b hi) hr, fun i b hi hr => g1 i b (f.ron i b hi hr)⟩
  have hE2 : HRel (glV []) μE (mkHV [] bs) wE := by
    refine ⟨⟨fun i b hb => by rw [hnx]; exact hE.lt i b (g1 i b hb), fun i b hb => by rw [hnx]; exact hE.blk i b (g1 i b hb), fun i j bi bj hi hj => hE.sep i j bi bj (g1 i bi hi) (g1 j bj hj), fun g i hg => by rw [hnx]; exact hE.glob g i hg⟩, fun B C hB => ⟨(hE.fz B C hB).1, fun hw => (hE.fz B C hB).2 ((w1 μE B).1 hw)⟩⟩
  refine wp_mono (ht μE wE μ a w hE2 hs (fr.1 hf)) ?_
  rintro e a1 w1' ⟨he, μ', hs', hf'⟩
  exact ⟨he, μ', hs', fr.2 hf'⟩
def roF : List Blk → Bool
  | [] => true
  | b :: r => !b.ro && roF r
theorem roF_ok : ∀ {bs : List Blk}, roF bs = true → ∀ b ∈ bs, b.ro = false := by
  intro bs
  induction bs with
  | nil => intro _ b hb; cases hb
  | cons x r ih =>
    intro h b hb
    unfold roF at h
    rw [Bool.and_eq_true, Bool.not_eq_true'] at h
    rcases List.mem_cons.1 hb with rfl | hb
    · exact h.1
    · exact ih h.2 b hb
/-- A function's own code, gone into once where there are just so many blocks; its loops are told. -/
noncomputable def lxA (P : Program) (gi nb : Nat) (call : CallA) (LO : LoopA) : CallA := fun g ar h => bif Nat.beq g gi && Nat.beq h.next nb then (match picksH (upto 0 nb) h with
  | some bs => bif roF bs then (match P.funcs[g]? with
    | none => none
    | some fn => match fn.body with
      | none => none
      | some c => bif fn.name == "runtime.NumGoroutine" then none else match codeB P (glV []) (regF P (glV [])) call LO c ⟨argsT 0 ar .nil, ar.length + (fn.ntmps - ar.length), h, []⟩ with
        | some (x, σ) => finK P fn x σ
        | none => none) else none
  | none => none) else none
noncomputable def lxK {R : Type} (P : Program) (gi nb : Nat) (call : CallA) (callK : CK R) (LK : LoopK R) : CK R := fun g ar h k => bif Nat.beq g gi && Nat.beq h.next nb then (match picksH (upto 0 nb) h with
  | some bs => bif roF bs then (match P.funcs[g]? with
    | none => none
    | some fn => match fn.body with
      | none => none
      | some c => bif fn.name == "runtime.NumGoroutine" then none else codeG P (glV []) call callK LK c ⟨argsT 0 ar .nil, ar.length + (fn.ntmps - ar.length), h, []⟩ fun x σ => finKK P fn x σ k) else none
  | none => none) else none
theorem lxK_ok {R : Type} {gi nb : Nat} {call : CallA} {callK : CK R} (hc : CKok call callK) {LO : LoopA} {LK : LoopK R} (hL : LKok LO LK) : CKok (lxA P gi nb call LO) (lxK P gi nb call callK LK) := by
  intro g ar h k
  unfold lxA lxK
  cases Nat.beq g gi && Nat.beq h.next nb with
  | false => rfl
  | true =>
  dsimp only [cond_true]
  cases picksH (upto 0 nb) h with
  | none => rfl
  | some bs =>
  dsimp only
  cases roF bs with
  | false => rfl
  | true =>
  dsimp only [cond_true]
  cases P.funcs[g]? with
  | none => rfl
  | some fn =>
    dsimp only
    cases fn.body with
    | none => rfl
    | some c =>
      dsimp only
      cases fn.name == "runtime.NumGoroutine" with
      | true => rfl
      | false =>
        simp only [cond_false]
        rw [codeG_eq hc hL]
        cases codeB P (glV []) (regF P (glV [])) call LO c ⟨argsT 0 ar .nil, ar.length + (fn.ntmps - ar.length), h, []⟩ with
        | none => rfl
        | some y => obtain ⟨x, σ⟩ := y; exact finKK_eq P fn x σ k
theorem lxA_ok (hm : P.follows .mixedOrders = true) {gi nb : Nat} {call : CallA} (hcall : CallOK P (glV []) call) {LO : LoopA} (hLO : ∀ (fn : Func) (bs : List Blk), P.funcs[gi]? = some fn → bs.length = nb → (∀ b ∈ bs, b.ro = false) → LoopsOK P (glV []) (mkHV [] bs) LO (loopsOf (bodyOf fn))) : CallOK P (glV []) (lxA P gi nb call LO) := by
  intro g ar h v h' hc
  unfold lxA at hc
  cases hn : Nat.beq g gi && Nat.beq h.next nb with
  | false => rw [hn] at hc; cases hc
  | true =>
  rw [hn] at hc
  rw [Bool.and_eq_true] at hn
  have hg := Nat.eq_of_beq_eq_true hn.1
  have hn' := Nat.eq_of_beq_eq_true hn.2
  dsimp only [cond_true] at hc
  split at hc
  · rename_i bs hbs
    cases hro : roF bs with
    | false => rw [hro] at hc; cases hc
    | true =>
    rw [hro] at hc
    dsimp only [cond_true] at hc
    have hlen : bs.length = nb := by rw [(picksH_get hbs).1]; simp [upto]
    split at hc
    · cases hc
    · rename_i fn hfn
      split at hc
      · cases hc
      · rename_i c hb
        cases hname : (fn.name == "runtime.NumGoroutine") with
        | true => rw [hname] at hc; cases hc
        | false =>
          rw [hname] at hc
          simp only [cond_false] at hc
          have hbody : bodyOf fn = c := by unfold bodyOf; rw [hb]
          have hL := hLO fn bs (hg ▸ hfn) hlen (roF_ok hro)
          rw [hbody] at hL
          have hL2 : LoopsOK P (glV []) h LO (loopsOf c) := fun c' hc' σ x σ' hr => loopTri_h (by rw [hlen]; exact hn') (by rw [hlen]; exact hbs) (hL c' hc' σ x σ' hr)
          refine oneB_ok (regF_ok hm) hcall (toK_ok call) (toLK_ok LO) hL2 hfn hb hname ?_
          rw [codeBK_eq (toK_ok call) (toLK_ok LO)]
          exact hc
  · cases hc
theorem of_bindG {C : Type} (L : List Wd) (h : PSh) (m : Option C) (k : C → Option PR) : (Option.bind m fun r => ofP L h (k r)) = ofP L h (Option.bind m k) := by cases m <;> rfl
theorem exT (l o : Nat) (cs : List Value) : exF (gslV l o true cs) = gslV l o false cs := rfl
/-- Calls that ask for no variable may be made where there are some. -/
theorem callOK_gl {call : CallA} (h : CallOK P (glV []) call) {gl : Nat → Option Nat} : CallOK P gl call := by
  intro g ar hp v h' hc
  obtain ⟨h1, h2⟩ := h g ar hp v h' hc
  refine ⟨h1, fun μ w args hh hr => (h2 μ w args ⟨⟨hh.lt, hh.blk, hh.sep, fun g i hg => by cases hg⟩, hh.fz⟩ hr).mono ?_⟩
  rintro e w' ⟨c, μ', rfl, g1, g2, g3⟩
  refine ⟨c, μ', rfl, ⟨⟨g1.lt, g1.blk, g1.sep, fun g i hg => ?_⟩, g1.fz⟩, g2, g3⟩
  obtain ⟨k1, k2, k3⟩ := hh.glob g i hg
  have e := g2.ext.loc i k1
  exact ⟨Nat.lt_of_lt_of_le k1 g2.next, by rw [e]; exact k2, by rw [e]; exact k3⟩
end Go.Proofs.YtachednafdmmaaaDoor.AI
