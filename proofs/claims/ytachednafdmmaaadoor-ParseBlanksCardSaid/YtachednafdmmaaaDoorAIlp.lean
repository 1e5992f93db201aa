/- The abstract interpreter: contracts of functions that change a block of their caller's. -/
import Derived.Test.YtachednafdmmaaaDoorAIlo
namespace Go.Proofs.YtachednafdmmaaaDoor.AI
open Go Go.RowKit
set_option linter.unusedVariables false
set_option linter.unusedSimpArgs false

variable {P : Program} {gl : Nat → Option Nat}

/-- Rows told by p, as what they hold (so deep); all else as it is. -/
noncomputable def fz {R : Type} : Nat → Nat → (Nat → Bool) → AH → Value → (Value → Option R) → Option R
  | 0, _, _, _, _, _ => none
  | e + 1, d, p, h, v, k => match v with
    | .slice (some ⟨b, off, none⟩) l c => bif p b then (match h.get b with
      | some (.row _ _ cs) => match d with
        | 0 => none
        | 1 => bif tst (∀ x ∈ cs, GVal x) then k (gslV l off (Nat.beq c 0) (cs.map nf)) else none
        | d + 2 => gzL (fz e (d + 1) p h) cs fun cs' => k (gslV l off (Nat.beq c 0) (cs'.map nf))
      | _ => none) else k (.slice (some ⟨b, off, none⟩) l c)
    | .agg ⟨cs⟩ => gzL (fz e d p h) cs fun cs' => k (.agg ⟨cs'⟩)
    | .tuple ⟨cs⟩ => gzL (fz e d p h) cs fun cs' => k (.tuple ⟨cs'⟩)
    | v => k v

theorem fz_nat : ∀ (e d : Nat) (p : Nat → Bool) (h : AH) (v : Value) {R : Type} (k : Value → Option R), fz e d p h v k = match fz e d p h v some with
    | some u => k u
    | none => none := by
  intro e
  induction e with
  | zero => intro d p h v R k; rfl
  | succ e ih =>
    intro d p h v R k
    have arr : ∀ (d : Nat) (cs : List Value) {R : Type} (k : List Value → Option R), gzL (fz e d p h) cs k = match gzL (fz e d p h) cs some with
      | some us => k us
      | none => none := fun d cs R k => gzL_nat (f1 := fz e d p h) (fun v k => ih d p h v k) (fun v k => ih d p h v k) cs k
    cases v with
    | slice a l c =>
      cases a with
      | none => rfl
      | some q =>
        obtain ⟨b, off, sp⟩ := q
        cases sp with
        | some q => rfl
        | none =>
          simp only [fz]
          cases p b with
          | false => rfl
          | true =>
            dsimp only [cond_true]
            cases hb : h.get b with
            | none => rfl
            | some bb =>
              cases bb with
              | mp r es => rfl
              | row ro z cs =>
                match d with
                | 0 => rfl
                | 1 => dsimp only; cases tst (∀ x ∈ cs, GVal x) <;> rfl
                | d + 2 =>
                  dsimp only
                  rw [arr, arr (d + 1) cs fun cs' => some (gslV l off (Nat.beq c 0) (cs'.map AI.nf))]
                  cases gzL (fz e (d + 1) p h) cs some <;> rfl
    | agg a =>
      obtain ⟨cs⟩ := a
      simp only [fz]
      rw [arr, arr d cs fun cs' => some (Value.agg ⟨cs'⟩)]
      cases gzL (fz e d p h) cs some <;> rfl
    | tuple a =>
      obtain ⟨cs⟩ := a
      simp only [fz]
      rw [arr, arr d cs fun cs' => some (Value.tuple ⟨cs'⟩)]
      cases gzL (fz e d p h) cs some <;> rfl
    | _ => rfl
theorem fzLn {R : Type} (e d : Nat) (p : Nat → Bool) (h : AH) (cs : List Value) (k : List Value → Option R) : gzL (fz e d p h) cs k = match gzL (fz e d p h) cs some with
    | some us => k us
    | none => none := gzL_nat (f1 := fz e d p h) (fun v k => fz_nat e d p h v k) (fun v k => fz_nat e d p h v k) cs k
theorem fz_rel {μ μ2 : Mu} {h : AH} {w : World} {n : Nat} (hh : HRel gl μ h w) {p : Nat → Bool} (hl : ∀ i, μ2 i = μ i) (hn : h.next ≤ n) (h1 : ∀ B C, μ.fr B = some C → μ2.fr B = some C)
    (h2 : ∀ i, p i = true → (∃ b, h.get i = some b) → ∀ C e fz, w.heap[(μ i).b]? = some (.cells C e fz) → μ2.fr (μ i).b = some C) : ∀ (e d : Nat) (v u : Value), fz e d p h v some = some u → ∀ (c : Value), VRel μ h.next v c → VRel μ2 n u c := by
  have same : ∀ {v c : Value}, VRel μ h.next v c → VRel μ2 n v c := fun hv => hv.mono (X := fun _ => True) ⟨fun i _ => hl i, h1, fun _ _ _ => .inr trivial⟩ hn
  intro e
  induction e with
  | zero => intro d v u hu; cases hu
  | succ e ih =>
    intro d v u hu
    have arr : ∀ (d : Nat) (cs us : List Value), gzL (fz e d p h) cs some = some us → ∀ {ds : List Value}, LRel μ h.next cs ds → LRel μ2 n us ds := by
      intro d cs us hus ds hr
      obtain ⟨q1, q2⟩ := gzL_get (f1 := fz e d p h) (fun v k => fz_nat e d p h v k) cs us hus
      refine ⟨q1.trans hr.1, fun i x y hx hy => ?_⟩
      have hi : i < cs.length := by rw [← q1]; exact (List.getElem?_eq_some_iff.1 hx).1
      exact ih d _ _ (q2 i _ x (List.getElem?_eq_getElem hi) hx) _ (hr.2 i _ y (List.getElem?_eq_getElem hi) hy)
    have els : ∀ {v : Value}, some v = some u → ∀ (c : Value), VRel μ h.next v c → VRel μ2 n u c := by
      intro v hv c hc
      cases hv
      exact same hc
    cases v with
    | slice a l c =>
      cases a with
      | none => exact els hu
      | some q =>
        obtain ⟨b, off, sp⟩ := q
        cases sp with
        | some q => exact els hu
        | none =>
          simp only [fz] at hu
          cases hp : p b with
          | false => rw [hp] at hu; exact els hu
          | true =>
            rw [hp] at hu
            dsimp only [cond_true] at hu
            cases hb : h.get b with
            | none => simp only [hb] at hu; cases hu
            | some bb =>
              cases bb with
              | mp r es => simp only [hb] at hu; cases hu
              | row ro z cs =>
                have rowrel : ∀ (cs' : List Value), (∀ {ds : List Value}, LRel μ h.next cs ds → LRel μ2 n cs' ds) → ∀ {v' : Value}, VRel μ h.next (.slice (some ⟨b, off, none⟩) l c) v' → VRel μ2 n (gslV l off (Nat.beq c 0) cs') v' := by
                  intro cs' hcs v' hv
                  obtain ⟨hbn, o', rfl, ho⟩ := hv.slice
                  obtain ⟨C, et, fz, hr⟩ := hh.blk _ _ hb
                  have hfit := hr.fits
                  have e1 : C.toList.length = C.size := Array.length_toList
                  have hlr : LRel μ h.next cs ((C.toList.drop (μ b).o).take cs.length) := by
                    refine ⟨by rw [List.length_take, List.length_drop, e1]; omega, fun i x y hx hy => ?_⟩
                    obtain ⟨c, q1, q2⟩ := hr.cells i x hx
                    have hi := (List.getElem?_eq_some_iff.1 hx).1
                    rw [List.getElem?_take, if_pos hi, List.getElem?_drop, Array.getElem?_toList, q1] at hy
                    cases hy
                    exact q2
                  have hl2 := hcs hlr
                  have hlen : cs'.length = cs.length := by
                    have := hl2.1
                    rw [List.length_take, List.length_drop, e1] at this
                    omega
                  refine .gsl l off (Nat.beq c 0) cs' _ _ (μ b).b (μ b).o C (fun h => by have := Nat.eq_of_beq_eq_true h; subst this; simp) (by omega) (fun q hq => by cases hq; rfl) (fun hq => by cases hq) (fun hne => ?_) (fun j x y hne hx hy => ?_)
                  · have ho' : o' = (μ b).o + off := by
                      rcases ho with ho | ⟨h0, _⟩
                      · exact ho
                      · exact absurd h0 hne
                    rw [ho']
                    exact ⟨rfl, h2 b hp ⟨_, hb⟩ C et fz hr.at_, by omega⟩
                  · have hj := (List.getElem?_eq_some_iff.1 hx).1
                    refine hl2.2 j x y hx ?_
                    rw [List.getElem?_take, if_pos (by omega), List.getElem?_drop, Array.getElem?_toList]
                    exact hy
                match d with
                | 0 => simp only [hb] at hu; cases hu
                | 1 =>
                  simp only [hb] at hu
                  cases hq : tst (∀ x ∈ cs, GVal x) with
                  | false => rw [hq] at hu; cases hu
                  | true =>
                    rw [hq] at hu
                    cases hu
                    have hg := of_tst hq
                    exact fun c' hc => (rowrel cs (fun {ds} hl => ⟨hl.1, fun i x y hx hy => (hg x (List.mem_of_getElem? hx)).vrel h1 (hl.2 i x y hx hy)⟩) hc).gsl_nf
                | d + 2 =>
                  simp only [hb] at hu
                  rw [fzLn] at hu
                  cases hus : gzL (fz e (d + 1) p h) cs some with
                  | none => rw [hus] at hu; cases hu
                  | some us =>
                    rw [hus] at hu
                    cases hu
                    exact fun c' hc => (rowrel us (fun {ds} hl => arr (d + 1) cs us hus hl) hc).gsl_nf
    | agg a =>
      obtain ⟨cs⟩ := a
      simp only [fz] at hu
      rw [fzLn] at hu
      cases hus : gzL (fz e d p h) cs some with
      | none => rw [hus] at hu; cases hu
      | some us =>
        rw [hus] at hu
        cases hu
        intro c hc
        obtain ⟨ys, rfl, hl⟩ := hc.aggI
        have := arr d cs us hus hl
        exact .agg _ _ this.1 this.2
    | tuple a =>
      obtain ⟨cs⟩ := a
      simp only [fz] at hu
      rw [fzLn] at hu
      cases hus : gzL (fz e d p h) cs some with
      | none => rw [hus] at hu; cases hu
      | some us =>
        rw [hus] at hu
        cases hu
        intro c hc
        obtain ⟨ys, rfl, hl⟩ := hc.tupleI
        have := arr d cs us hus hl
        exact .tuple _ _ this.1 this.2
    | _ => exact els hu

/-- Rows of one's own that are kept: their cells (true: cells that are not all told: they name no row). -/
noncomputable def fzBs {R : Type} (d : Nat) (p : Nat → Bool) (h : AH) : List Bool → List Blk → (List Blk → Option R) → Option R
  | _, [], k => k []
  | true :: gs, .row false z cs :: r, k => bif tst (∀ x ∈ cs, GVal x) then fzBs d p h gs r fun bs => k (.row false z cs :: bs) else none
  | gs, .row false z cs :: r, k => gzL (fz 20 d p h) cs fun us => fzBs d p h (gs.drop 1) r fun bs => k (.row false z us :: bs)
  | _, _ :: _, _ => none
theorem fzBs_get {R : Type} {d : Nat} {p : Nat → Bool} {h : AH} : ∀ (bs : List Blk) (gs : List Bool) (k : List Blk → Option R) (r : R), fzBs d p h gs bs k = some r →
    ∃ bs1, k bs1 = some r ∧ bs1.length = bs.length ∧ ∀ (j : Nat) (b1 : Blk), bs1[j]? = some b1 → ∃ z cs us, bs[j]? = some (.row false z cs) ∧ b1 = .row false z us ∧ (us = cs ∨ gzL (fz 20 d p h) cs some = some us) := by
  intro bs
  induction bs with
  | nil => intro gs k r hr; exact ⟨[], by cases gs <;> simpa [fzBs] using hr, rfl, fun j b1 h => by simp at h⟩
  | cons b bs ih =>
    intro gs k r hr
    cases b with
    | mp ro es =>
      cases gs with
      | nil => simp [fzBs] at hr
      | cons g gs => cases g <;> simp [fzBs] at hr
    | row ro z cs =>
      cases ro with
      | true =>
        cases gs with
        | nil => simp [fzBs] at hr
        | cons g gs => cases g <;> simp [fzBs] at hr
      | false =>
        have fin : ∀ {gs' : List Bool} {us : List Value}, fzBs d p h gs' bs (fun bs => k (.row false z us :: bs)) = some r → (us = cs ∨ gzL (fz 20 d p h) cs some = some us) →
            ∃ bs1, k bs1 = some r ∧ bs1.length = (Blk.row false z cs :: bs).length ∧ ∀ (j : Nat) (b1 : Blk), bs1[j]? = some b1 → ∃ z' cs' us', (Blk.row false z cs :: bs)[j]? = some (.row false z' cs') ∧ b1 = .row false z' us' ∧ (us' = cs' ∨ gzL (fz 20 d p h) cs' some = some us') := by
          intro gs' us h1 h2
          obtain ⟨bs1, g1, g2, g3⟩ := ih gs' _ r h1
          refine ⟨_, g1, by simp [g2], fun j b1 hj => ?_⟩
          cases j with
          | zero => simp at hj; subst hj; exact ⟨z, cs, us, rfl, rfl, h2⟩
          | succ j => exact g3 j b1 (by simpa using hj)
        have mid : ∀ {gs' : List Bool}, (gzL (fz 20 d p h) cs fun us => fzBs d p h gs' bs fun bs => k (.row false z us :: bs)) = some r → _ := fun {gs'} hr => by
          rw [fzLn] at hr
          split at hr
          · rename_i us hus
            exact fin hr (.inr hus)
          · cases hr
        cases gs with
        | nil => exact mid hr
        | cons g gs =>
          cases g with
          | false => exact mid hr
          | true =>
            simp only [fzBs] at hr
            cases ht : tst (∀ x ∈ cs, GVal x) with
            | false => rw [ht] at hr; cases hr
            | true => rw [ht] at hr; exact fin hr (.inl rfl)

theorem mkHV_ro {l : VTabs} {bs : List Blk} (h0 : ∀ b ∈ bs, b.ro = false) {i : Nat} {b : Blk} (h : (mkHV l bs).get i = some b) (hr : b.ro = true) : i < l.length ∧ (hV l).get i = some b := by
  rw [mkHV_get] at h
  by_cases hi : l.length ≤ i
  · rw [if_pos hi] at h
    rw [h0 b (List.mem_of_getElem? h)] at hr; cases hr
  · rw [if_neg hi] at h
    exact ⟨by omega, h⟩
theorem mkHV_rows {l : VTabs} {bs : List Blk} {i : Nat} {b : Blk} (h : (hV l).get i = some b) : (mkHV l bs).get i = some b := by
  rw [mkHV_get, if_neg (by have := (hV_ro h).2; omega)]; exact h

theorem covers_HVE {l : VTabs} (hG : GTab l) {bsE : List Blk} (hE0 : ∀ b ∈ bsE, b.ro = false) {ts ids dl : List Nat} {vs1 vs2 : List Value} {bs1 bs2 : List Blk} {σ1 : St} {n : Nat} (hn : σ1.n = n) (hd : σ1.ds = []) (hp : picks ts σ1.T = some vs1) (hb : picksH ids σ1.h = some bs1) (hlen : bs2.length = bs1.length)
    (hv : RenL (idk l.length ids) (idd l.length dl) (l.length + bs2.length) vs2 vs1) (hB : ∀ (i : Nat) (b b1 : Blk), bs2[i]? = some b → bs1[i]? = some b1 → RenB (idk l.length ids) (idd l.length dl) (l.length + bs2.length) (idx dl i) b b1) (hnd : ids.Nodup) (hge : ∀ i ∈ ids, l.length ≤ i) (hro : ∀ b ∈ bs2, b.ro = false)
    (hkE : bsE.length ≤ bs2.length) (hfix : ∀ j, j < bsE.length → idx ids j = l.length + j ∧ idx dl j = 0) :
    Covers (glV l) (mkHV l bsE) (stT ts vs2 n (mkHV l bs2)) σ1 := by
  obtain ⟨k1, k2⟩ := picksH_get hb
  have hid : ∀ (i : Nat), i < bs2.length → ids[i]? = some (idx ids i) := by
    intro i hi
    have : i < ids.length := by rw [← k1, ← hlen]; exact hi
    simp [idx, List.getElem?_eq_getElem this]
  have hat : ∀ (i : Nat) (b : Blk), (stT ts vs2 n (mkHV l bs2)).h.get i = some b → (l.length ≤ i ∧ bs2[i - l.length]? = some b ∧ i - l.length < bs2.length) ∨ (i < l.length ∧ (hV l).get i = some b) := fun i b hi => by
    have hi' : (mkHV l bs2).get i = some b := hi
    rw [mkHV_get] at hi'
    split at hi'
    · rename_i h; exact .inl ⟨h, hi', (List.getElem?_eq_some_iff.1 hi').1⟩
    · rename_i h; exact .inr ⟨by omega, hi'⟩
  intro μE μ1 wE w a hE hs f
  have hrow : ∀ (i : Nat) (b : Blk), (hV l).get i = some b → σ1.h.get i = some b := fun i b h => f.ro i b (mkHV_rows h) (hV_ro h).1
  refine Cov.covers (ρ := idk l.length ids) (δ := idd l.length dl) ⟨hn, fun t v ht => ?_, fun i b hi => ?_, fun i b hi => ?_, fun i j bi bj hi hj he => ?_, rfl, hd, fun g i hg => ?_, fun i hi => ?_, Nat.add_le_add_left hkE _, fun i b hi hr => ?_, fun i b hi hr => ?_⟩ μE μ1 wE w a hE hs f
  · obtain ⟨j, v1, h1, h2, h3⟩ := picks_get hp vs2 hv.1 t v ht
    exact ⟨v1, h3, hv.2 j v v1 h1 h2⟩
  · show i < l.length + bs2.length
    rcases hat i b hi with ⟨h1, h2, h3⟩ | ⟨h1, _⟩ <;> omega
  · rcases hat i b hi with ⟨h1, h2, h3⟩ | ⟨h1, h2⟩
    · have hlt1 : i - l.length < bs1.length := by omega
      have hg := List.getElem?_eq_getElem hlt1
      obtain ⟨i', g1, g2⟩ := k2 _ _ hg
      rw [hid _ h3] at g1
      cases g1
      refine ⟨_, by unfold idk; rw [if_neg (by omega)]; exact g2, ?_⟩
      have := hB (i - l.length) b _ h2 hg
      unfold idd at this ⊢
      rw [if_neg (by omega)]
      exact this
    · refine ⟨b, by unfold idk; rw [if_pos h1]; exact hrow i b h2, ?_⟩
      unfold idd
      rw [if_pos h1]
      obtain ⟨x, hx, rfl⟩ := hV_get h2
      refine ⟨rfl, rfl, Nat.zero_le _, rfl, fun j u v hu hv => ?_⟩
      rw [List.drop_zero] at hv
      rw [hu] at hv
      cases hv
      exact .gv _ (hG x (List.mem_of_getElem? hx) _ (List.mem_of_getElem? hu))
  · have gg : ∀ (i : Nat) (b : Blk), bs2[i - l.length]? = some b → i - l.length < bs2.length → l.length ≤ idx ids (i - l.length) := fun i b h1 h2 => hge _ (List.mem_of_getElem? (hid _ h2))
    rcases hat i bi hi with ⟨h1, h2, l1⟩ | ⟨h1, h2⟩ <;> rcases hat j bj hj with ⟨h3, h4, l2⟩ | ⟨h3, h4⟩
    · have e1 := hid _ l1
      have e2 := hid _ l2
      unfold idk at he
      rw [if_neg (by omega), if_neg (by omega)] at he
      rw [he] at e1
      have m1 : i - l.length < ids.length := by rw [← k1, ← hlen]; exact l1
      have m2 : j - l.length < ids.length := by rw [← k1, ← hlen]; exact l2
      rw [List.getElem?_eq_getElem m1] at e1
      rw [List.getElem?_eq_getElem m2] at e2
      have := (List.getElem_inj hnd).1 ((Option.some.inj e1).trans (Option.some.inj e2).symm)
      omega
    · have := gg i bi h2 l1
      unfold idk at he
      rw [if_neg (by omega), if_pos h3] at he
      omega
    · have := gg j bj h4 l2
      unfold idk at he
      rw [if_pos h1, if_neg (by omega)] at he
      omega
    · unfold idk at he
      rw [if_pos h1, if_pos h3] at he
      exact he
  · obtain ⟨_, x, hx, _⟩ := glW_some hg
    rw [Nat.sub_zero] at hx
    have hlt := (List.getElem?_eq_some_iff.1 hx).1
    refine ⟨?_, ?_, ?_⟩
    · show i < l.length + bs2.length
      omega
    · unfold idk; rw [if_pos hlt]
    · unfold idd; rw [if_pos hlt]
  · have hi' : i < l.length + bsE.length := hi
    unfold idk idd
    by_cases h : i < l.length
    · rw [if_pos h, if_pos h]; exact ⟨rfl, rfl⟩
    · rw [if_neg h, if_neg h]
      obtain ⟨q1, q2⟩ := hfix (i - l.length) (by omega)
      exact ⟨by rw [q1]; omega, q2⟩
  · exact mkHV_rows (mkHV_ro hE0 hi hr).2
  · exact mkHV_rows (mkHV_ro hro hi hr).2

/-- Some rows are frozen, the others called otherwise; where the function began with blocks of its caller's. -/
theorem covers_HY {l : VTabs} (hG : GTab l) {bsE : List Blk} (hE0 : ∀ b ∈ bsE, b.ro = false) {p : Nat → Bool} {d : Nat} {ts ids dl : List Nat} {vs us vs2 : List Value} {bs bs1 bs2 : List Blk} {σ1 : St} {n : Nat} (hn : σ1.n = n) (hd : σ1.ds = []) (hp : picks ts σ1.T = some vs) (hus : gzL (fz 20 d p σ1.h) vs some = some us) (hb : picksH ids σ1.h = some bs)
    (hbs : bs1.length = bs.length ∧ ∀ (j : Nat) (b1 : Blk), bs1[j]? = some b1 → ∃ z cs us, bs[j]? = some (.row false z cs) ∧ b1 = .row false z us ∧ (us = cs ∨ gzL (fz 20 d p σ1.h) cs some = some us))
    (htd : ts.Nodup) (hnd : ids.Nodup) (hge : ∀ i ∈ ids, l.length ≤ i) (hI : ∀ i, p i = true → l.length ≤ i ∧ i ∉ ids) (hlen : bs2.length = bs1.length)
    (hv : RenL (idk l.length ids) (idd l.length dl) (l.length + bs2.length) vs2 us) (hB : ∀ (i : Nat) (b b1 : Blk), bs2[i]? = some b → bs1[i]? = some b1 → RenB (idk l.length ids) (idd l.length dl) (l.length + bs2.length) (idx dl i) b b1) (hro : ∀ b ∈ bs2, b.ro = false)
    (hkE : bsE.length ≤ bs2.length) (hfix : ∀ j, j < bsE.length → idx ids j = l.length + j ∧ idx dl j = 0) :
    Covers (glV l) (mkHV l bsE) (stT ts vs2 n (mkHV l bs2)) σ1 := by
  obtain ⟨k1, k2⟩ := picksH_get hb
  obtain ⟨m1, m2⟩ := hbs
  obtain ⟨u1, u2⟩ := gzL_get (f1 := fz 20 d p σ1.h) (fun v k => fz_nat 20 d p σ1.h v k) vs us hus
  have hil : ids.length = bs1.length := by rw [m1, k1]
  have hpl : us.length = ts.length := by rw [u1, picks_len hp]
  let hm : AH := ⟨putAll ids bs1 (hW 0 l .nil), σ1.h.next⟩
  have hmg : ∀ i : Nat, (∀ j : Nat, ids[j]? = some i → hm.get i = bs1[j]?) ∧ (i ∉ ids → hm.get i = (hV l).get i) := fun i => putAll_get ids bs1 (hW 0 l .nil) i hnd hil
  have hmc : ∀ (i : Nat) (b : Blk), hm.get i = some b → (∃ z cs cs', σ1.h.get i = some (.row false z cs) ∧ b = .row false z cs' ∧ (cs' = cs ∨ gzL (fz 20 d p σ1.h) cs some = some cs') ∧ i ∈ ids) ∨ (i ∉ ids ∧ (hV l).get i = some b) := by
    intro i b hi
    by_cases him : i ∈ ids
    · left
      obtain ⟨j, hj⟩ := List.getElem?_of_mem him
      rw [(hmg i).1 j hj] at hi
      obtain ⟨z, cs, cs', g1, g2, g3⟩ := m2 j b hi
      obtain ⟨i', g4, g5⟩ := k2 j _ g1
      rw [hj] at g4
      cases g4
      exact ⟨z, cs, cs', g5, g2, g3, him⟩
    · exact .inr ⟨him, by rw [← (hmg i).2 him]; exact hi⟩
  refine Covers.trans (b := ⟨mkT ts us, n, hm, []⟩) (covers_HVE hG hE0 rfl rfl (picks_self ts us htd hpl) (picksH_self ids bs1 hm (fun j i hj => (hmg i).1 j hj) hil) hlen hv hB hnd hge hro hkE hfix) ?_
  intro μE μ1 wE w a hE hs f
  generalize hT : (fun B => (∃ C, μ1.fr B = some C) ∨ ∃ i, p i = true ∧ (∃ b, σ1.h.get i = some b) ∧ (μ1 i).b = B) = T
  have hTB : ∀ B, T B ↔ (∃ C, μ1.fr B = some C) ∨ ∃ i, p i = true ∧ (∃ b, σ1.h.get i = some b) ∧ (μ1 i).b = B := fun B => by rw [← hT]
  have h1 : ∀ B C, μ1.fr B = some C → (muS w T).fr B = some C := fun B C hB => muS_some.2 ⟨(hTB B).2 (.inl ⟨C, hB⟩), (hs.heap.fz B C hB).1⟩
  have h2 : ∀ i, p i = true → (∃ b, σ1.h.get i = some b) → ∀ C e fz, w.heap[(μ1 i).b]? = some (.cells C e fz) → (muS w T).fr (μ1 i).b = some C := fun i hi he C e fz hw => muS_some.2 ⟨(hTB _).2 (.inr ⟨i, hi, he, rfl⟩), e, fz, hw⟩
  have rel : ∀ {v u c : Value}, fz 20 d p σ1.h v some = some u → VRel μ1 σ1.h.next v c → VRel ⟨μ1.loc, (muS w T).fr⟩ σ1.h.next u c := fun hu hr => fz_rel (μ2 := ⟨μ1.loc, (muS w T).fr⟩) hs.heap (fun i => rfl) (Nat.le_refl _) h1 h2 20 d _ _ hu _ hr
  have same : ∀ {v c : Value}, VRel μ1 σ1.h.next v c → VRel ⟨μ1.loc, (muS w T).fr⟩ σ1.h.next v c := fun hv => VRel.mono (μ := μ1) (μ' := ⟨μ1.loc, (muS w T).fr⟩) (X := fun _ => True) ⟨fun i _ => rfl, h1, fun _ _ _ => .inr trivial⟩ (Nat.le_refl _) hv
  have hown : ∀ i, p i = true → ∀ b, σ1.h.get i = some b → b.ro = false := fun i hi b hb' => by
    cases hr : b.ro with
    | false => rfl
    | true =>
      have := (mkHV_ro hE0 (f.ron i b hb' hr) hr).1
      have := (hI i hi).1
      omega
  have hvro : ∀ (i : Nat) (b : Blk), (hV l).get i = some b → σ1.h.get i = some b := fun i b h => f.ro i b (mkHV_rows h) (hV_ro h).1
  have wr : ∀ B, Wr ⟨μ1.loc, (muS w T).fr⟩ hm B → ∃ i ∈ ids, ∃ z cs, σ1.h.get i = some (.row false z cs) ∧ (μ1 i).b = B := by
    rintro B ⟨i, b, hi, hr, hB'⟩
    rcases hmc i b hi with ⟨z, cs, cs', g1, g2, g3, g4⟩ | ⟨_, g⟩
    · exact ⟨i, g4, z, cs, g1, hB'⟩
    · rw [(hV_ro g).1] at hr; cases hr
  refine ⟨⟨μ1.loc, (muS w T).fr⟩, ⟨hs.size.trans hn, fun t v ht => ?_, ⟨⟨fun i b h => ?_, fun i b h => ?_, fun i j bi bj hi hj hne hr => ?_, fun g i hg => ?_⟩, fun B C hB' => ⟨(muS_some.1 hB').2, fun hw => ?_⟩⟩, ?_⟩,
    ⟨f.os, f.tape, f.output, f.size, f.next, ⟨fun i hi => f.ext.loc i hi, fun B C hB' => h1 B C (f.ext.fr B C hB'), fun B C hB' => ?_⟩, f.keep, fun B hB' => ?_, fun i b h hr => ?_, fun i b h hr => ?_⟩⟩
  · obtain ⟨j, v1, hj, hj1, ht1⟩ := picks_get hp us u1 t v ht
    obtain ⟨c, hc, hr⟩ := hs.tmps t v1 ht1
    exact ⟨c, hc, rel (u2 j v1 v hj1 hj) hr⟩
  · rcases hmc i b h with ⟨z, cs, cs', g1, _, _, _⟩ | ⟨_, g⟩
    · exact hs.heap.lt i _ g1
    · exact hs.heap.lt i _ (hvro i b g)
  · rcases hmc i b h with ⟨z, cs, cs', g1, rfl, g3, _⟩ | ⟨_, g⟩
    · obtain ⟨C, e, fz', hrow⟩ := hs.heap.blk i _ g1
      rcases g3 with rfl | g3
      · exact ⟨C, e, fz', hrow.at_, hrow.fits, fun j v hv => by obtain ⟨c, hc, hr⟩ := hrow.cells j v hv; exact ⟨c, hc, same hr⟩, hrow.fr, fun h => by cases h⟩
      · obtain ⟨q1, q2⟩ := gzL_get (f1 := fz 20 d p σ1.h) (fun v k => fz_nat 20 d p σ1.h v k) cs cs' g3
        refine ⟨C, e, fz', hrow.at_, by rw [q1]; exact hrow.fits, fun j v hv => ?_, hrow.fr, fun h => by cases h⟩
        have hj : j < cs.length := by rw [← q1]; exact (List.getElem?_eq_some_iff.1 hv).1
        obtain ⟨c, hc, hr⟩ := hrow.cells j _ (List.getElem?_eq_getElem hj)
        exact ⟨c, hc, rel (q2 j _ v (List.getElem?_eq_getElem hj) hv) hr⟩
    · obtain ⟨x, hx, rfl⟩ := hV_get g
      obtain ⟨C, e, fz', hrow⟩ := hs.heap.blk i _ (hvro i _ g)
      refine ⟨C, e, fz', hrow.at_, hrow.fits, fun j v hv => ?_, hrow.fr, hrow.ex⟩
      obtain ⟨c, hc, hr⟩ := hrow.cells j v hv
      exact ⟨c, hc, (hG x (List.mem_of_getElem? hx) v (List.mem_of_getElem? hv)).vrel (μ' := ⟨μ1.loc, (muS w T).fr⟩) h1 hr⟩
  · have back : ∀ (i : Nat) (b : Blk), hm.get i = some b → ∃ b', σ1.h.get i = some b' ∧ b'.ro = b.ro := fun i b h => by
      rcases hmc i b h with ⟨z, cs, cs', g1, rfl, _, _⟩ | ⟨_, g⟩
      · exact ⟨_, g1, rfl⟩
      · exact ⟨b, hvro i b g, rfl⟩
    obtain ⟨bi', e1, e2⟩ := back i bi hi
    obtain ⟨bj', e3, _⟩ := back j bj hj
    exact hs.heap.sep i j bi' bj' e1 e3 hne (by rw [e2]; exact hr)
  · exact hs.heap.glob g i hg
  · obtain ⟨j, hj, z, cs, g1, g2⟩ := wr B hw
    rcases (hTB B).1 (muS_some.1 hB').1 with ⟨C', hC'⟩ | ⟨i, hi, ⟨b, hb'⟩, hiB⟩
    · exact (hs.heap.fz B C' hC').2 ⟨j, _, g1, rfl, g2⟩
    · exact hs.heap.sep i j b _ hb' g1 (fun e => (hI i hi).2 (e ▸ hj)) (hown i hi b hb') (hiB.trans g2.symm)
  · have := hs.ds
    rw [hd] at this
    show DRel _ _ [] a.defers
    rw [this.nilInv]
    exact .nil
  · obtain ⟨ht, e, fz', hw⟩ := muS_some.1 hB'
    rcases (hTB B).1 ht with ⟨C', h'⟩ | ⟨i, hi, ⟨b, hb'⟩, rfl⟩
    · obtain ⟨e', fz'', hw'⟩ := (hs.heap.fz B C' h').1
      rw [hw] at hw'
      cases hw'
      exact f.ext.new B C h'
    · exact .inr (f.own _ ⟨i, b, hb', hown i hi b hb', rfl⟩)
  · obtain ⟨j, hj, z, cs, g1, g2⟩ := wr B hB'
    exact f.own B ⟨j, _, g1, rfl, g2⟩
  · obtain ⟨q1, q2⟩ := mkHV_ro hE0 h hr
    rw [(hmg i).2 (fun him => by have := hge i him; omega)]
    exact q2
  · rcases hmc i b h with ⟨z, cs, cs', _, rfl, _, _⟩ | ⟨_, g⟩
    · cases hr
    · exact mkHV_rows g

/-- A contract of a function that begins with blocks of its caller's: what it answers, what these blocks hold then. -/
def ConM (P : Program) (l : VTabs) (bs : List Blk) (g : FuncId) (ar : List Value) (v : Value) (bs' : List Blk) : Prop :=
  ∀ (μ : Mu) (w : World) (args : Array Value), HRel (glV l) μ (mkHV l bs) w → LRel μ (l.length + bs.length) ar args.toList →
    Calls P g args w fun e w' => ∃ c μ', e = .returned c ∧ HRel (glV l) μ' (mkHV l bs') w' ∧ Fr μ (mkHV l bs) w μ' (mkHV l bs') w' ∧ VRel μ' (l.length + bs'.length) v c
def pN (n0 : Nat) (b : Nat) : Bool := Nat.ble n0 b
def upto (a k : Nat) : List Nat := List.range' a k
/-- What such a function leaves. -/
noncomputable def finM {R : Type} (P : Program) (gl : Nat → Option Nat) (fn : Func) (d a k : Nat) (gs : List Bool) (fin : Value → List Blk → Option R) (x : XA) (σ : St) : Option R :=
  match x with
  | .exit _ => none
  | _ => match runDs (callA P gl (regF P gl) 3 true) σ.ds σ.h with
    | some hm => match resA P σ.T hm fn.results.toList with
      | some vs => fz 20 d (pN (a + k)) hm (tupA vs) fun u => match picksH (upto a k) hm with
        | some bs => fzBs d (pN (a + k)) hm gs bs fun bs1 => fin u bs1
        | none => none
      | none => none
    | none => none
/-- The run of such a function's own code. -/
noncomputable def runM (P : Program) (l : VTabs) (bs : List Blk) (call : CallA) (callK : CK (Value × List Blk)) (LK : LoopK (Value × List Blk)) (d : Nat) (gs : List Bool) (fn : Func) (ar : List Value) : Option (Value × List Blk) :=
  codeG P (glV l) call callK LK (bodyOf fn) ⟨argsT 0 ar .nil, ar.length + (fn.ntmps - ar.length), mkHV l bs, []⟩ (finM P (glV l) fn d l.length bs.length gs fun u bs1 => some (u, bs1))
theorem idx_nil (j : Nat) : idx [] j = 0 := by simp [idx]
theorem idx_upto {a k j : Nat} (h : j < k) : idx (upto a k) j = a + j := by
  unfold idx upto
  rw [List.getElem?_range' h]; simp
theorem finM_some {R : Type} {fn : Func} {d a k : Nat} {gs : List Bool} {fin : Value → List Blk → Option R} {x : XA} {σ : St} {r : R} (hrun : finM P gl fn d a k gs fin x σ = some r) :
    (∀ id, x ≠ .exit id) ∧ ∃ hf vs u bs0 bs1, runDs (callA P gl (regF P gl) 3 true) σ.ds σ.h = some hf ∧ resA P σ.T hf fn.results.toList = some vs ∧ fz 20 d (pN (a + k)) hf (tupA vs) some = some u ∧ picksH (upto a k) hf = some bs0 ∧ fin u bs1 = some r ∧
        bs1.length = bs0.length ∧ ∀ (j : Nat) (b1 : Blk), bs1[j]? = some b1 → ∃ z cs us, bs0[j]? = some (.row false z cs) ∧ b1 = .row false z us ∧ (us = cs ∨ gzL (fz 20 d (pN (a + k)) hf) cs some = some us) := by
  unfold finM at hrun
  split at hrun
  · cases hrun
  · rename_i hx
    split at hrun
    · rename_i hf hds
      split at hrun
      · rename_i vs hvs
        rw [fz_nat] at hrun
        split at hrun
        · rename_i u hu
          split at hrun
          · rename_i bs0 hbs0
            obtain ⟨bs1, q1, q2, q3⟩ := fzBs_get _ _ _ _ hrun
            exact ⟨fun id e => hx id e, hf, vs, u, bs0, bs1, hds, hvs, hu, hbs0, q1, q2, q3⟩
          · cases hrun
        · cases hrun
      · cases hrun
    · cases hrun

theorem covers_M {l : VTabs} (hG : GTab l) {bs : List Blk} (hE0 : ∀ b ∈ bs, b.ro = false) {d : Nat} {v u : Value} {hf : AH} {bs0 bs1 : List Blk} {p : Nat → Bool} (hpe : p = pN (l.length + bs.length)) (hu : gzL (fz 20 d p hf) [v] some = some [u]) (hpk : picksH (upto l.length bs.length) hf = some bs0)
    (hbs : bs1.length = bs0.length ∧ ∀ (j : Nat) (b1 : Blk), bs1[j]? = some b1 → ∃ z cs us, bs0[j]? = some (.row false z cs) ∧ b1 = .row false z us ∧ (us = cs ∨ gzL (fz 20 d p hf) cs some = some us)) (hv : GVal u) (hbs' : ∀ z cs, Blk.row false z cs ∈ bs1 → ∀ x ∈ cs, GVal x) :
    Covers (glV l) (mkHV l bs) (stT [0] [u] 1 (mkHV l bs1)) ⟨mkT [0] [v], 1, hf, []⟩ := by
  have hpl : bs0.length = bs.length := by rw [(picksH_get hpk).1]; simp [upto]
  have hRB : ∀ {us : List Value}, (∀ x ∈ us, GVal x) → RenL (idk l.length (upto l.length bs.length)) (idd l.length []) (l.length + bs1.length) us us := fun {us} h =>
    ⟨rfl, fun i x y hx hy => by rw [hx] at hy; cases hy; exact .gv _ (h x (List.mem_of_getElem? hx))⟩
  refine covers_HY hG hE0 (p := p) (d := d) (ids := upto l.length bs.length) (dl := []) (vs := [v]) (us := [u]) (bs := bs0) (bs1 := bs1) rfl rfl (picks_self [0] [v] (by simp) rfl) hu hpk hbs (by simp) (by unfold upto; exact List.nodup_range') ?_ ?_ rfl ?_ ?_ ?_ (by have := hbs.1; omega) ?_
  · intro i hi
    unfold upto at hi
    have := List.mem_range'_1.1 hi
    omega
  · intro i hi
    rw [hpe] at hi
    have hi' := Nat.le_of_ble_eq_true (show Nat.ble (l.length + bs.length) i = true from hi)
    refine ⟨by omega, fun hm => ?_⟩
    unfold upto at hm
    have := List.mem_range'_1.1 hm
    omega
  · exact hRB (fun x hx => by rw [List.mem_singleton.1 hx]; exact hv)
  · intro i b b1 h1 h2
    rw [h1] at h2
    cases h2
    obtain ⟨z, cs, us, _, rfl, _⟩ := hbs.2 i b h1
    exact ⟨rfl, rfl, by rw [idx_nil]; exact Nat.zero_le _, by rw [idx_nil, List.drop_zero]; exact hRB (hbs' z us (List.mem_of_getElem? h1))⟩
  · intro b hb'
    obtain ⟨i, hi⟩ := List.getElem?_of_mem hb'
    obtain ⟨z, cs, us, _, rfl, _⟩ := hbs.2 i b hi
    rfl
  · intro j hj
    exact ⟨idx_upto hj, idx_nil j⟩

theorem conM {l : VTabs} (hG : GTab l) {bs : List Blk} (hE0 : ∀ b ∈ bs, b.ro = false) {call : CallA} (hm : P.follows .mixedOrders = true) (hcall : CallOK P (glV l) call) {callK : CK (Value × List Blk)} (hK : CKok call callK) {LO : LoopA} {LK : LoopK (Value × List Blk)} (hL : LKok LO LK) {d : Nat} {gs : List Bool} {g : FuncId} {fn : Func} {c : Code} {ar : List Value} {v : Value} {bs' : List Blk}
    (hfn : P.funcs[g]? = some fn) (hb : fn.body = some c) (hname : (fn.name == "runtime.NumGoroutine") = false) (hLO : LoopsOK P (glV l) (mkHV l bs) LO (loopsOf (bodyOf fn))) (hrun : runM P l bs call callK LK d gs fn ar = some (v, bs'))
    (hv : GVal v) (hbs' : ∀ z cs, Blk.row false z cs ∈ bs' → ∀ x ∈ cs, GVal x) : ConM P l bs g ar v bs' := by
  intro μ w args hh hargs
  have hreg : RegOK P (glV l) (regF P (glV l)) := regF_ok hm
  have hbody : bodyOf fn = c := by unfold bodyOf; rw [hb]
  unfold runM at hrun
  rw [codeG_eq hK hL] at hrun
  split at hrun
  · rename_i x σ hcode
    rw [hbody] at hcode hLO
    obtain ⟨hx, hf, vs, u, bs0, bs1, hds, hres, hu, hpk, hfu, hlen, hcells⟩ := finM_some hrun
    obtain ⟨rfl, rfl⟩ := Prod.mk.inj (Option.some.inj hfu)
    have hpl : bs0.length = bs.length := by rw [(picksH_get hpk).1]; simp [upto]
    refine calls_of_wp_defers hfn hb ?_
    have hs := enter_rel hh hargs fn.ntmps
    refine wp_mono (codeB_ok hreg hcall c hLO _ x σ hcode μ w μ _ w hh hs (.refl _ _ _)) ?_
    rintro e a1 w1 ⟨rfl, μ1, hs1, hf1⟩
    have key : Leaves P fn a1.tmps (fun e w' => ∃ c μ', e = .returned c ∧ HRel (glV l) μ' (mkHV l bs1) w' ∧ Fr μ (mkHV l bs) w μ' (mkHV l bs1) w' ∧ VRel μ' (l.length + bs1.length) u c) a1.defers .returning w1 := by
      refine leaves_ok (callA_ok hreg 3).2 σ.ds a1.defers μ1 σ.h hf w1 hs1.ds hds hs1.tmps hs1.heap fun w' μ' hT' hh' hf' => ?_
      obtain ⟨c', e1, e2⟩ := results_run (P := P) hT' hh' hres
      refine ⟨c', e1, c', ?_⟩
      have hsr : SRel (glV l) μ' ⟨mkT [0] [tupA vs], 1, hf, []⟩ ⟨#[c'], []⟩ w' := by
        refine ⟨rfl, fun t v ht => ?_, hh', .nil⟩
        have ht' : (Tr.set Tr.nil 0 (some (tupA vs))).get t = some v := ht
        rw [Tr.get_set] at ht'
        by_cases h0 : t = 0
        · rw [if_pos h0] at ht'
          cases ht'
          subst h0
          exact ⟨c', rfl, e2⟩
        · rw [if_neg h0, Tr.get_nil] at ht'; cases ht'
      have hu' : gzL (fz 20 d (pN (l.length + bs.length)) hf) [tupA vs] some = some [u] := by
        show fz 20 d (pN (l.length + bs.length)) hf (tupA vs) (fun x' => some [x']) = some [u]
        rw [fz_nat, hu]
      have hcov : Covers (glV l) (mkHV l bs) (stT [0] [u] 1 (mkHV l bs1)) ⟨mkT [0] [tupA vs], 1, hf, []⟩ := covers_M hG hE0 rfl hu' hpk ⟨hlen, hcells⟩ hv hbs'
      obtain ⟨μ2, g1, g2⟩ := hcov μ μ' w w' ⟨#[c'], []⟩ hh hsr (hf1.trans hf')
      obtain ⟨c2, q1, q2⟩ := g1.tmps 0 u (by show (Tr.set Tr.nil 0 (some u)).get 0 = some u; rw [Tr.get_set_same])
      cases q1
      exact ⟨μ2, rfl, g1.heap, g2, q2⟩
    cases x with
    | normal => exact key
    | ret => exact key
    | exit id => exact absurd rfl (hx id)
  · cases hrun

/-- Are the rows where they lay? -/
noncomputable def rowsJ (h : AH) : Nat → VTabs → Bool
  | _, [] => true
  | i, x :: l => match h.get i with
    | some (.row true 7777 cs) => tst (cs = x.2) && rowsJ h (i + 1) l
    | _ => false
theorem rowsJ_get {h : AH} : ∀ {l : VTabs} {i : Nat}, rowsJ h i l = true → ∀ (j : Nat) (x : Nat × List Value), l[j]? = some x → h.get (i + j) = some (.row true 7777 x.2) := by
  intro l
  induction l with
  | nil => intro i _ j x hx; simp at hx
  | cons y l ih =>
    intro i hb j x hx
    unfold rowsJ at hb
    split at hb
    · rename_i cs hr
      rw [Bool.and_eq_true] at hb
      cases j with
      | zero => simp at hx; subst hx; rw [Nat.add_zero, hr, of_tst hb.1]
      | succ j =>
        have := ih hb.2 j x (by simpa using hx)
        rw [show i + (j + 1) = i + 1 + j by omega]; exact this
    · cases hb
/-- What an argument is to the function: the block that is lent goes by its canonical name; rows of one's own by what they hold. -/
def gm1 (i L : Nat) (v : Value) : Option Value := match v with
  | .pointer (some ⟨b, o, none⟩) => bif Nat.beq b i then some (.pointer (some ⟨L, o, none⟩)) else none
  | v => bif plain1 v then some v else none
def mapO (f : Value → Option Value) : List Value → Option (List Value)
  | [] => some []
  | x :: r => match f x with
    | some y => match mapO f r with
      | some ys => some (y :: ys)
      | none => none
    | none => none
theorem mapO_get {f : Value → Option Value} : ∀ {l us : List Value}, mapO f l = some us → us.length = l.length ∧ ∀ (i : Nat) (x y : Value), l[i]? = some x → us[i]? = some y → f x = some y := by
  intro l
  induction l with
  | nil => intro us h; cases h; exact ⟨rfl, fun i x y hx => by simp at hx⟩
  | cons a l ih =>
    intro us h
    unfold mapO at h
    split at h
    · rename_i a' ha
      split at h
      · rename_i r hr
        cases h
        obtain ⟨h1, h2⟩ := ih hr
        refine ⟨by simp [h1], fun i x y hx hy => ?_⟩
        cases i with
        | zero => simp at hx hy; subst hx hy; exact ha
        | succ i => exact h2 i x y (by simpa using hx) (by simpa using hy)
      · cases h
    · cases h
noncomputable def gm {R : Type} (d : Nat) (h : AH) (i L : Nat) (v : Value) (k : Value → Option R) : Option R := match v with
  | .pointer (some ⟨b, o, none⟩) => bif Nat.beq b i then k (.pointer (some ⟨L, o, none⟩)) else none
  | .func f ⟨fs⟩ ⟨cs⟩ => match mapO (gm1 i L) fs with
    | some fs' => match mapO (gm1 i L) cs with
      | some cs' => k (.func f ⟨fs'⟩ ⟨cs'⟩)
      | none => none
    | none => none
  | v => gz 20 d h v k
theorem gm_nat (d : Nat) (h : AH) (i L : Nat) (v : Value) {R : Type} (k : Value → Option R) : gm d h i L v k = match gm d h i L v some with
    | some u => k u
    | none => none := by
  unfold gm
  split
  · rename_i b o
    cases Nat.beq b i <;> rfl
  · rename_i f fs cs
    cases mapO (gm1 i L) fs with
    | none => rfl
    | some fs' => cases mapO (gm1 i L) cs <;> rfl
  · exact gz_nat 20 d h v k
theorem gm1_rel {μ μ2 : Mu} {n i L : Nat} (hi : μ2 L = μ i) {v u : Value} (hu : gm1 i L v = some u) {c : Value} (hr : VRel μ n v c) : VRel μ2 (L + 1) u c := by
  unfold gm1 at hu
  split at hu
  · rename_i b o
    cases hb : Nat.beq b i with
    | false => rw [hb] at hu; cases hu
    | true =>
      rw [hb] at hu
      cases hu
      have := Nat.eq_of_beq_eq_true hb
      subst this
      obtain ⟨_, rfl⟩ := hr.pointer
      rw [← hi]
      exact .ptr L o (Nat.lt_succ_self L)
  · cases hp : plain1 v with
    | false => rw [hp] at hu; cases hu
    | true =>
      rw [hp] at hu
      cases hu
      rw [hr.plain_eq' hp]
      exact .plain _ hp
theorem gm_rel {μ μ2 : Mu} {h : AH} {w : World} (hh : HRel gl μ h w) {I : List Nat} {i L d : Nat} (hi : μ2 L = μ i) (h1 : ∀ B C, μ.fr B = some C → μ2.fr B = some C)
    (h2 : ∀ i ∈ I, ∀ C e fz, w.heap[(μ i).b]? = some (.cells C e fz) → μ2.fr (μ i).b = some C) {v u : Value} (hu : gm d h i L v some = some u) (hI : ∀ i ∈ gzI 20 d h v, i ∈ I) {c : Value} (hr : VRel μ h.next v c) : VRel μ2 (L + 1) u c := by
  unfold gm at hu
  split at hu
  · rename_i b o
    cases hb : Nat.beq b i with
    | false => rw [hb] at hu; cases hu
    | true =>
      rw [hb] at hu
      cases hu
      have := Nat.eq_of_beq_eq_true hb
      subst this
      obtain ⟨_, rfl⟩ := hr.pointer
      rw [← hi]
      exact .ptr L o (Nat.lt_succ_self L)
  · rename_i f fs cs
    split at hu
    · rename_i fs' hfs
      split at hu
      · rename_i cs' hcs
        cases hu
        obtain ⟨f1, c1, rfl, r1, r2⟩ := hr.funcI
        obtain ⟨a1, a2⟩ := mapO_get hfs
        obtain ⟨b1, b2⟩ := mapO_get hcs
        refine .func f _ _ _ _ (a1.trans r1.1) (fun j x y hx hy => ?_) (b1.trans r2.1) (fun j x y hx hy => ?_)
        · have hj : j < fs.length := by rw [← a1]; exact (List.getElem?_eq_some_iff.1 hx).1
          exact gm1_rel hi (a2 j _ x (List.getElem?_eq_getElem hj) hx) (r1.2 j _ y (List.getElem?_eq_getElem hj) hy)
        · have hj : j < cs.length := by rw [← b1]; exact (List.getElem?_eq_some_iff.1 hx).1
          exact gm1_rel hi (b2 j _ x (List.getElem?_eq_getElem hj) hx) (r2.2 j _ y (List.getElem?_eq_getElem hj) hy)
      · cases hu
    · cases hu
  · exact VRel.closed (μ := μ2) (fun B C hB => hB) (gz_ok hh h1 h2 20 d v u hu hI c hr)
theorem gmLn {R : Type} (d : Nat) (h : AH) (i L : Nat) (cs : List Value) (k : List Value → Option R) : gzL (gm d h i L) cs k = match gzL (gm d h i L) cs some with
    | some us => k us
    | none => none := gzL_nat (f1 := gm d h i L) (fun v k => gm_nat d h i L v k) (fun v k => gm_nat d h i L v k) cs k

/-- A table of functions that change a block of their caller's: of its cells, what is answered, the cells then. -/
abbrev TabM := FuncId → List Value → List Value → Option (Bool × Value × List Value)
def TabMOK (P : Program) (l : VTabs) (F : TabM) : Prop := ∀ (g : FuncId) (ar cs : List Value) (v : Value) (cs' : List Value), F g ar cs = some (true, v, cs') →
  (∀ (args : Array Value) (w : World), (callFunc g args).run P w = .ok (.enter g args) w) ∧ GVal v ∧ (∀ x ∈ cs, GVal x) ∧ (∀ x ∈ cs', GVal x) ∧ ConM P l [.row false 1 cs] g ar v [.row false 1 cs']
/-- The block that is lent: the first argument points to it. -/
def lentI : List Value → Option Nat
  | .pointer (some ⟨i, 0, none⟩) :: _ => some i
  | _ => none
noncomputable def sumMK {R : Type} (l : VTabs) (d : FuncId → Nat) (F : TabM) : CK R := fun g ar h k =>
  bif rowsJ h 0 l then (match lentI ar with
    | some i => match h.get i with
      | some (.row false 1 cs) => gzL (gm (d g) h i l.length) ar fun ar' => match F g ar' cs with
        | some (b, v, cs') => bif b then (bif isIn (ar.flatMap (gzI 20 (d g) h)) i then none else match killI (ar.flatMap (gzI 20 (d g) h)) h with
          | some h' => k v (h'.put i (.row false 1 cs'))
          | none => none) else none
        | none => none
      | _ => none
    | none => none) else none
noncomputable def sumM (l : VTabs) (d : FuncId → Nat) (F : TabM) : CallA := fun g ar h => sumMK l d F g ar h fun v h' => some (v, h')
theorem sumMK_ok {R : Type} (l : VTabs) (d : FuncId → Nat) (F : TabM) : CKok (R := R) (sumM l d F) (sumMK l d F) := by
  intro g ar h k
  unfold sumM sumMK
  cases rowsJ h 0 l with
  | false => rfl
  | true =>
  dsimp only [cond_true]
  cases lentI ar with
  | none => rfl
  | some i =>
  dsimp only
  split
  · rename_i cs hi
    rw [gmLn, gmLn (d g) h i l.length ar fun ar' => match F g ar' cs with
      | some (b, v, cs') => bif b then (bif isIn (ar.flatMap (gzI 20 (d g) h)) i then none else match killI (ar.flatMap (gzI 20 (d g) h)) h with
        | some h' => some (v, h'.put i (.row false 1 cs'))
        | none => none) else none
      | none => none]
    cases gzL (gm (d g) h i l.length) ar some with
    | none => rfl
    | some ar' =>
      dsimp only
      rcases F g ar' cs with _ | ⟨b, v, cs'⟩
      · rfl
      · cases b with
        | false => rfl
        | true =>
          dsimp only [cond_true]
          cases isIn (ar.flatMap (gzI 20 (d g) h)) i with
          | true => rfl
          | false => dsimp only [cond_false]; cases killI (ar.flatMap (gzI 20 (d g) h)) h <;> rfl
  · rfl
theorem isIn_false {I : List Nat} {i : Nat} (h : isIn I i = false) : i ∉ I := fun hm => by
  have : isIn I i = true := List.any_eq_true.2 ⟨i, hm, Nat.beq_refl i⟩
  rw [this] at h; cases h

theorem sumM_ok {l : VTabs} (hG : GTab l) (d : FuncId → Nat) {F : TabM} (hF : TabMOK P l F) : CallOK P (glV l) (sumM l d F) := by
  intro g ar h v h' hc
  unfold sumM sumMK at hc
  cases hrows : rowsJ h 0 l with
  | false => rw [hrows] at hc; cases hc
  | true =>
  rw [hrows] at hc
  dsimp only [cond_true] at hc
  split at hc
  · rename_i i hlent
    split at hc
    · rename_i cs hi
      rw [gmLn] at hc
      split at hc
      · rename_i ar' har
        split at hc
        · rename_i b u cs' hFg
          cases b with
          | false => cases hc
          | true =>
          dsimp only [cond_true] at hc
          cases hin : isIn (ar.flatMap (gzI 20 (d g) h)) i with
          | true => rw [hin] at hc; cases hc
          | false =>
          rw [hin] at hc
          dsimp only [cond_false] at hc
          split at hc
          · rename_i h2 hk
            obtain ⟨rfl, rfl⟩ := Prod.mk.inj (Option.some.inj hc)
            obtain ⟨henter, hgv, hgc, hgc', hcon⟩ := hF g ar' cs u cs' hFg
            refine ⟨henter, fun μ w args hh hr => ?_⟩
            have hII : ∀ i ∈ ar.flatMap (gzI 20 (d g) h), ∃ b, h.get i = some b := fun i hi => by
              obtain ⟨x, _, hx⟩ := List.mem_flatMap.1 hi
              exact gzI_row _ _ _ _ _ hx
            generalize hIe : ar.flatMap (gzI 20 (d g) h) = I at hin hk hII
            have hiI := isIn_false hin
            generalize hS : (fun B => (∃ C, μ.fr B = some C) ∨ ∃ j ∈ I, (μ j).b = B) = S
            have hSB : ∀ B, S B ↔ (∃ C, μ.fr B = some C) ∨ ∃ j ∈ I, (μ j).b = B := fun B => by rw [← hS]
            obtain ⟨μc, hμc⟩ : ∃ μc : Mu, μc = ⟨fun j => if j = l.length then μ i else μ j, (muS w S).fr⟩ := ⟨_, rfl⟩
            have cL : μc l.length = μ i := by rw [hμc]; exact if_pos rfl
            have cN : ∀ j, j ≠ l.length → μc j = μ j := fun j hj => by rw [hμc]; exact if_neg hj
            have cf : ∀ B, μc.fr B = (muS w S).fr B := fun B => by rw [hμc]
            have f1 : ∀ B C, μ.fr B = some C → μc.fr B = some C := fun B C hB => by rw [cf]; exact muS_some.2 ⟨(hSB B).2 (.inl ⟨C, hB⟩), (hh.fz B C hB).1⟩
            have rrow : ∀ j b, (hV l).get j = some b → h.get j = some b ∧ j < l.length := fun j b hb => by
              obtain ⟨x, hx, rfl⟩ := hV_get hb
              have := rowsJ_get hrows j x hx
              rw [Nat.zero_add] at this
              exact ⟨this, (hV_ro hb).2⟩
            have own : ∀ j b, h.get j = some b → j ≠ i → (μ i).b ≠ (μ j).b := fun j b hb hne => hh.sep i j _ b hi hb (Ne.symm hne) rfl
            have wrc : ∀ B, Wr μc (mkHV l [.row false 1 cs]) B → B = (μ i).b := by
              rintro B ⟨j, b, hj, hro, hB⟩
              rw [mkHV_get] at hj
              by_cases hle : l.length ≤ j
              · rw [if_pos hle] at hj
                have h0 : j - l.length = 0 := by
                  have := (List.getElem?_eq_some_iff.1 hj).1
                  simp at this
                  omega
                have : j = l.length := by omega
                rw [this, cL] at hB; exact hB.symm
              · rw [if_neg hle] at hj
                rw [(hV_ro hj).1] at hro; cases hro
            have hc1 : HRel (glV l) μc (mkHV l [.row false 1 cs]) w := by
              refine ⟨⟨fun j b hj => ?_, fun j b hj => ?_, fun a j ba bj ha hj hne hro => ?_, fun g' j hg' => ?_⟩, fun B C hB => ⟨?_, fun hw => ?_⟩⟩
              · rw [mkHV_get] at hj
                show j < l.length + 1
                by_cases hle : l.length ≤ j
                · rw [if_pos hle] at hj
                  have := (List.getElem?_eq_some_iff.1 hj).1
                  simp at this
                  omega
                · omega
              · rw [mkHV_get] at hj
                by_cases hle : l.length ≤ j
                · rw [if_pos hle] at hj
                  have h0 : j - l.length = 0 := by
                    have := (List.getElem?_eq_some_iff.1 hj).1
                    simp at this
                    omega
                  rw [h0] at hj
                  cases hj
                  have : j = l.length := by omega
                  subst this
                  obtain ⟨C, e, fz', hrow⟩ := hh.blk i _ hi
                  refine ⟨C, e, fz', by rw [cL]; exact hrow.at_, by rw [cL]; exact hrow.fits, fun a x hx => ?_, hrow.fr, fun h => by cases h⟩
                  obtain ⟨c, q1, q2⟩ := hrow.cells a x hx
                  exact ⟨c, by rw [cL]; exact q1, (hgc x (List.mem_of_getElem? hx)).vrel f1 q2⟩
                · rw [if_neg hle] at hj
                  obtain ⟨x, hx, rfl⟩ := hV_get hj
                  obtain ⟨q, _⟩ := rrow j _ hj
                  obtain ⟨C, e, fz', hrow⟩ := hh.blk j _ q
                  have e1 := cN j (by omega)
                  refine ⟨C, e, fz', by rw [e1]; exact hrow.at_, by rw [e1]; exact hrow.fits, fun a y hy => ?_, hrow.fr, fun q1 q2 => by rw [e1]; exact hrow.ex q1 q2⟩
                  obtain ⟨c, q1, q2⟩ := hrow.cells a y hy
                  exact ⟨c, by rw [e1]; exact q1, (hG x (List.mem_of_getElem? hx) y (List.mem_of_getElem? hy)).vrel f1 q2⟩
              · have ha' : a = l.length := by
                  rw [mkHV_get] at ha
                  by_cases hle : l.length ≤ a
                  · rw [if_pos hle] at ha
                    have := (List.getElem?_eq_some_iff.1 ha).1
                    simp at this
                    omega
                  · rw [if_neg hle] at ha
                    rw [(hV_ro ha).1] at hro; cases hro
                subst ha'
                have hj' : j < l.length ∧ (hV l).get j = some bj := by
                  rw [mkHV_get] at hj
                  by_cases hle : l.length ≤ j
                  · rw [if_pos hle] at hj
                    have := (List.getElem?_eq_some_iff.1 hj).1
                    simp at this
                    omega
                  · rw [if_neg hle] at hj; exact ⟨by omega, hj⟩
                rw [cL, cN j (by omega)]
                obtain ⟨q1, _⟩ := rrow j bj hj'.2
                refine own j bj q1 (fun e => ?_)
                subst e
                rw [hi] at q1
                cases q1
                have := (hV_ro hj'.2).1
                cases this
              · obtain ⟨_, x, hx, hg1⟩ := glW_some hg'
                rw [Nat.sub_zero] at hx
                have hlt := (List.getElem?_eq_some_iff.1 hx).1
                obtain ⟨_, q2, q3⟩ := hh.glob g' j hg'
                rw [cN j (by omega)]
                exact ⟨by show j < l.length + 1; omega, q2, q3⟩
              · rw [cf] at hB; exact (muS_some.1 hB).2
              · have hBi := wrc B hw
                rw [cf] at hB
                rcases (hSB B).1 (muS_some.1 hB).1 with ⟨C0, q⟩ | ⟨j, hj, q⟩
                · exact (hh.fz B C0 q).2 ⟨i, _, hi, rfl, hBi.symm⟩
                · obtain ⟨b, hb⟩ := hII j hj
                  exact own j b hb (fun e => hiI (e ▸ hj)) (hBi.symm.trans q.symm)
            have hl1 : LRel μc (l.length + 1) ar' args.toList := by
              obtain ⟨q1, q2⟩ := gzL_get (f1 := gm (d g) h i l.length) (fun v k => gm_nat (d g) h i l.length v k) ar ar' har
              refine ⟨q1.trans hr.1, fun a x y hx hy => ?_⟩
              have ha : a < ar.length := by rw [← q1]; exact (List.getElem?_eq_some_iff.1 hx).1
              refine gm_rel hh (I := I) cL f1 (fun j hj C e fz' hw => ?_) (q2 a _ x (List.getElem?_eq_getElem ha) hx) (fun j hj => ?_) (hr.2 a _ y (List.getElem?_eq_getElem ha) hy)
              · rw [cf]; exact muS_some.2 ⟨(hSB _).2 (.inr ⟨j, hj, rfl⟩), e, fz', hw⟩
              · rw [← hIe]; exact List.mem_flatMap.2 ⟨_, List.getElem_mem ha, hj⟩
            refine (hcon μc w args hc1 hl1).mono ?_
            rintro e w' ⟨c, μ1, rfl, g1, g2, g3⟩
            obtain ⟨n1, n2, n3, n4⟩ := killI_ok (gl := glV l) (μ := μ) (w := w') I h h2 hk
            have dL : μ1 l.length = μ i := by rw [g2.ext.loc l.length (by show l.length < l.length + 1; omega), cL]
            have hput : ∀ j b, (h2.put i (.row false 1 cs')).get j = some b → (j = i ∧ b = .row false 1 cs') ∨ (j ≠ i ∧ j ∉ I ∧ h.get j = some b) := by
              intro j b hj
              rw [AH.get_put] at hj
              by_cases e : j = i
              · rw [if_pos e] at hj; cases hj; exact .inl ⟨e, rfl⟩
              · rw [if_neg e, n2 j] at hj
                by_cases hjI : j ∈ I
                · rw [if_pos hjI] at hj; cases hj
                · rw [if_neg hjI] at hj; exact .inr ⟨e, hjI, hj⟩
            have back : ∀ j b, (h2.put i (.row false 1 cs')).get j = some b → ∃ b', h.get j = some b' ∧ b'.ro = b.ro := by
              intro j b hj
              rcases hput j b hj with ⟨rfl, rfl⟩ | ⟨_, _, q⟩
              · exact ⟨_, hi, rfl⟩
              · exact ⟨b, q, rfl⟩
            have hfr : ∀ B C, μ.fr B = some C → μ1.fr B = some C := fun B C hB => g2.ext.fr B C (f1 B C hB)
            have newB : ∀ B C, μ1.fr B = some C → μ.fr B = some C ∨ (∃ j ∈ I, (μ j).b = B) ∨ B = (μ i).b ∨ w.heap.size ≤ B := by
              intro B C hB
              rcases g2.ext.new B C hB with q | q | q
              · rw [cf] at q
                obtain ⟨q1, e0, fz0, q2⟩ := muS_some.1 q
                rcases (hSB B).1 q1 with ⟨C0, q3⟩ | q3
                · obtain ⟨⟨e1, fz1, q4⟩, _⟩ := hh.fz B C0 q3
                  rw [q2] at q4
                  cases q4
                  exact .inl q3
                · exact .inr (.inl q3)
              · exact .inr (.inr (.inl (wrc B q)))
              · exact .inr (.inr (.inr q))
            have keep : ∀ B, B < w.heap.size → B ≠ (μ i).b → w'.heap[B]? = w.heap[B]? := fun B h1 h2 => g2.keep B h1 (fun hw => h2 (wrc B hw))
            have wrback : ∀ B, Wr ⟨μ.loc, μ1.fr⟩ (h2.put i (.row false 1 cs')) B → Wr μ h B := by
              rintro B ⟨j, b, hj, hro, hB⟩
              obtain ⟨b', q1, q2⟩ := back j b hj
              exact ⟨j, b', q1, q2.trans hro, hB⟩
            refine ⟨c, ⟨μ.loc, μ1.fr⟩, rfl, ⟨⟨fun j b hj => ?_, fun j b hj => ?_, fun a j ba bj ha hj hne hro => ?_, fun g' j hg' => ?_⟩, fun B C hB => ⟨(g1.fz B C hB).1, fun hw => ?_⟩⟩, ⟨g2.os, g2.tape, g2.output, g2.size, ?_, ⟨fun j _ => rfl, hfr, fun B C hB => ?_⟩, fun B hB hn => ?_, fun B hB => .inl (wrback B hB), fun j b hj hro => ?_, fun j b hj hro => ?_⟩, hgv.vrel (μ := μ1) (μ' := ⟨μ.loc, μ1.fr⟩) (fun B C hB => hB) g3⟩
            · rw [AH.next_put, n1]
              obtain ⟨b', q, _⟩ := back j b hj
              exact hh.lt j b' q
            · rw [AH.next_put, n1]
              rcases hput j b hj with ⟨rfl, rfl⟩ | ⟨hne, hnI, q⟩
              · have hg := g1.blk l.length (.row false 1 cs') (by rw [mkHV_get, if_pos (Nat.le_refl _), Nat.sub_self]; rfl)
                obtain ⟨C, e, fz', hrow⟩ := hg
                rw [dL] at hrow
                refine ⟨C, e, fz', hrow.at_, hrow.fits, fun a x hx => ?_, hrow.fr, fun h => by cases h⟩
                obtain ⟨c', q1, q2⟩ := hrow.cells a x hx
                exact ⟨c', q1, (hgc' x (List.mem_of_getElem? hx)).vrel (μ := μ1) (μ' := ⟨μ.loc, μ1.fr⟩) (fun B C hB => hB) q2⟩
              · have hb := hh.blk j b q
                exact BlkAt.same (μ := μ) (μ' := ⟨μ.loc, μ1.fr⟩) (X := fun _ => True) ⟨fun _ _ => rfl, hfr, fun _ _ _ => .inr trivial⟩ (Nat.le_refl _) (keep _ hb.lt (fun e => own j b q hne e.symm)) hb
            · obtain ⟨ba', q1, q2⟩ := back a ba ha
              obtain ⟨bj', q3, _⟩ := back j bj hj
              exact hh.sep a j ba' bj' q1 q3 hne (q2.trans hro)
            · rw [AH.next_put, n1]; exact hh.glob g' j hg'
            · obtain ⟨j, b, hj, hro, hBj⟩ := hw
              have hBj' : (μ j).b = B := hBj
              rcases hput j b hj with ⟨rfl, rfl⟩ | ⟨hne, hnI, q⟩
              · refine (g1.fz B C hB).2 ⟨l.length, .row false 1 cs', by rw [mkHV_get, if_pos (Nat.le_refl _), Nat.sub_self]; rfl, rfl, by rw [dL]; exact hBj'⟩
              · rcases newB B C hB with q1 | ⟨a, ha, q1⟩ | q1 | q1
                · exact (hh.fz B C q1).2 ⟨j, b, q, hro, hBj'⟩
                · obtain ⟨ba, hba⟩ := hII a ha
                  exact hh.sep j a b ba q hba (fun e => hnI (e ▸ ha)) hro (hBj'.trans q1.symm)
                · exact own j b q hne (q1.symm.trans hBj'.symm)
                · have := (hh.blk j b q).lt
                  omega
            · rw [AH.next_put, n1]; exact Nat.le_refl _
            · rcases newB B C hB with q1 | ⟨a, ha, q1⟩ | q1 | q1
              · exact .inl q1
              · obtain ⟨ba, hba⟩ := hII a ha
                exact .inr (.inl ⟨a, ba, hba, n3 a ha ba hba, q1⟩)
              · exact .inr (.inl ⟨i, _, hi, rfl, q1.symm⟩)
              · exact .inr (.inr q1)
            · exact keep B hB (fun e => hn ⟨i, _, hi, rfl, e.symm⟩)
            · rw [AH.get_put, if_neg (fun e => by rw [e, hi] at hj; cases hj; cases hro), n2 j, if_neg (fun hjI => by rw [n3 j hjI b hj] at hro; cases hro)]
              exact hj
            · rcases hput j b hj with ⟨rfl, rfl⟩ | ⟨_, _, q⟩
              · cases hro
              · exact q
          · cases hc
        · cases hc
      · cases hc
    · cases hc
  · cases hc
end Go.Proofs.YtachednafdmmaaaDoor.AI
