/- The abstract interpreter: between two rounds, rows of one's own become what they hold. -/
import Derived.Test.YtachednafdmmaaaDoorAIln
namespace Go.Proofs.YtachednafdmmaaaDoor.AI
open Go Go.RowKit
set_option linter.unusedVariables false
set_option linter.unusedSimpArgs false

theorem covers_G {l : VTabs} (hG : GTab l) {ts : List Nat} {vs us : List Value} {d n : Nat} {σ1 : St} (hn : σ1.n = n) (hd : σ1.ds = []) (hp : picks ts σ1.T = some vs) (hz : gzL (gz 20 d σ1.h) vs some = some us)
    (hids : (vs.flatMap (gzI 20 d σ1.h)).all (fun i => Nat.ble l.length i) = true) : Covers (glV l) (hV l) (stT ts us n (hV l)) σ1 := by
  intro μE μ1 wE w a hE hs f
  generalize hI : vs.flatMap (gzI 20 d σ1.h) = I at hids
  generalize hT : (fun B => (∃ C, μ1.fr B = some C) ∨ ∃ i ∈ I, (μ1 i).b = B) = T
  have hTB : ∀ B, T B ↔ (∃ C, μ1.fr B = some C) ∨ ∃ i ∈ I, (μ1 i).b = B := fun B => by rw [← hT]
  have h1 : ∀ B C, μ1.fr B = some C → (muS w T).fr B = some C := fun B C hB => muS_some.2 ⟨(hTB B).2 (.inl ⟨C, hB⟩), (hs.heap.fz B C hB).1⟩
  have h2 : ∀ i ∈ I, ∀ C e fz, w.heap[(μ1 i).b]? = some (.cells C e fz) → (muS w T).fr (μ1 i).b = some C := fun i hi C e fz hw => muS_some.2 ⟨(hTB _).2 (.inr ⟨i, hi, rfl⟩), e, fz, hw⟩
  obtain ⟨q1, q2⟩ := gzL_get (f1 := gz 20 d σ1.h) (fun v k => gz_nat 20 d σ1.h v k) vs us hz
  have hro : ∀ (i : Nat) (b : Blk), (hV l).get i = some b → σ1.h.get i = some b := fun i b h => f.ro i b h (hV_ro h).1
  have hnw : ∀ (μ : Mu) B, ¬ Wr μ (hV l) B := fun μ B ⟨i, b, h, hr, _⟩ => by rw [(hV_ro h).1] at hr; cases hr
  refine ⟨⟨μ1.loc, (muS w T).fr⟩, ⟨hs.size.trans hn, fun t v ht => ?_, ⟨⟨fun i b h => (hV_ro h).2, fun i b h => ?_, fun i j bi bj hi hj hne hr => ?_, fun g i hg => ?_⟩, fun B C hB => ⟨(muS_some.1 hB).2, hnw _ B⟩⟩, ?_⟩,
    ⟨f.os, f.tape, f.output, f.size, Nat.le_refl _, ⟨fun i hi => f.ext.loc i hi, fun B C hB => h1 B C (f.ext.fr B C hB), fun B C hB => ?_⟩, f.keep, fun B hB => absurd hB (hnw _ B), fun i b h _ => h, fun i b h _ => h⟩⟩
  · obtain ⟨j, v1, hj, hj1, ht1⟩ := picks_get hp us q1 t v ht
    obtain ⟨c, hc, hr⟩ := hs.tmps t v1 ht1
    refine ⟨c, hc, VRel.closed (μ := muS w T) (μ' := ⟨μ1.loc, (muS w T).fr⟩) (fun B C hB => hB) (gz_ok hs.heap h1 h2 20 d v1 v (q2 j v1 v hj1 hj) (fun i hi => ?_) c hr)⟩
    rw [← hI]
    exact List.mem_flatMap.2 ⟨v1, List.mem_of_getElem? hj1, hi⟩
  · obtain ⟨x, hx, rfl⟩ := hV_get h
    obtain ⟨C, e, fz, hrow⟩ := hs.heap.blk i _ (hro i _ h)
    refine ⟨C, e, fz, hrow.at_, hrow.fits, fun j v hv => ?_, hrow.fr, hrow.ex⟩
    obtain ⟨c, hc, hr⟩ := hrow.cells j v hv
    exact ⟨c, hc, (hG x (List.mem_of_getElem? hx) v (List.mem_of_getElem? hv)).vrel (μ' := ⟨μ1.loc, (muS w T).fr⟩) h1 hr⟩
  · rw [(hV_ro hi).1] at hr; cases hr
  · obtain ⟨_, x, hx, _⟩ := glW_some hg
    rw [Nat.sub_zero] at hx
    obtain ⟨_, g2, g3⟩ := hs.heap.glob g i hg
    exact ⟨(List.getElem?_eq_some_iff.1 hx).1, g2, g3⟩
  · have := hs.ds
    rw [hd] at this
    show DRel _ _ [] a.defers
    rw [this.nilInv]
    exact .nil
  · obtain ⟨ht, e, fz, hw⟩ := muS_some.1 hB
    rcases (hTB B).1 ht with ⟨C', h'⟩ | ⟨i, hi, rfl⟩
    · obtain ⟨e', fz', hw'⟩ := (hs.heap.fz B C' h').1
      rw [hw] at hw'
      cases hw'
      exact f.ext.new B C h'
    · right
      have hge := Nat.le_of_ble_eq_true (List.all_eq_true.1 hids i hi)
      rw [← hI] at hi
      obtain ⟨v1, _, hv1⟩ := List.mem_flatMap.1 hi
      obtain ⟨b, hb⟩ := gzI_row 20 d σ1.h v1 i hv1
      cases hr : b.ro with
      | true =>
        have := (hV_ro (f.ron i b hb hr)).2
        omega
      | false => exact f.own _ ⟨i, b, hb, hr, rfl⟩
/-- What a piece of code leaves, rows of one's own by what they hold. -/
noncomputable def finZ (ts : List Nat) (d n0 : Nat) (x : XA) (σ : St) : Option (XA × List Value × Nat) :=
  match σ.ds with
  | [] => match picks ts σ.T with
    | some vs => bif (vs.flatMap (gzI 20 d σ.h)).all (fun i => Nat.ble n0 i) then (match gzL (gz 20 d σ.h) vs some with
      | some us => some (x, us, σ.n)
      | none => none) else none
    | none => none
  | _ :: _ => none
theorem finZ_some {P : Program} {l : VTabs} (hG : GTab l) {call : CallA} {callK : CK (XA × List Value × Nat)} (hK : CKok call callK) {LO : LoopA} {LK : LoopK (XA × List Value × Nat)} (hL : LKok LO LK) {c : Code} {σ : St} {ts : List Nat} {d : Nat} {y : XA} {us : List Value} {n : Nat}
    (hr : codeG P (glV l) call callK LK c σ (finZ ts d l.length) = some (y, us, n)) :
    ∃ σ1, codeB P (glV l) (regF P (glV l)) call LO c σ = some (y, σ1) ∧ Covers (glV l) (hV l) (stT ts us n (hV l)) σ1 := by
  rw [codeG_eq hK hL] at hr
  split at hr
  · rename_i x σ1 hc
    unfold finZ at hr
    split at hr
    · rename_i hd
      split at hr
      · rename_i vs hvs
        cases hq : (vs.flatMap (gzI 20 d σ1.h)).all (fun i => Nat.ble l.length i) with
        | false => rw [hq] at hr; cases hr
        | true =>
          rw [hq] at hr
          dsimp only [cond_true] at hr
          split at hr
          · rename_i us' hus
            cases hr
            exact ⟨σ1, hc, covers_G hG rfl hd hvs hus hq⟩
          · cases hr
      · cases hr
    · cases hr
  · cases hr
/-- A round of a loop; between two rounds there are no rows of one's own. -/
noncomputable abbrev FQ (P : Program) (l : VTabs) (call : CallA) (callK : CK (XA × List Value × Nat)) (LK : LoopK (XA × List Value × Nat)) (d : Nat) (fn : Func) (k : Nat) (ts : List Nat) (vs : List Value) : Option (XA × List Value × Nat) := codeG P (glV l) call callK LK (loopN fn k) (stT ts vs fn.ntmps (hV l)) (finZ ts d l.length)


/-- One covers another, which covers a third. -/
theorem Covers.trans {gl : Nat → Option Nat} {hE : AH} {a b c : St} (h1 : Covers gl hE a b) (h2 : Covers gl hE b c) : Covers gl hE a c := by
  intro μE μ1 wE w ac hE' hs f
  obtain ⟨μ2, g1, g2⟩ := h2 μE μ1 wE w ac hE' hs f
  exact h1 μE μ2 wE w ac hE' g1 g2
/-- A slice of a row that is to be frozen, as what it holds; all else as it is. -/
noncomputable def fz1 (h : AH) (I : List Nat) (v : Value) : Option Value := match v with
  | .slice (some ⟨b, off, none⟩) l c => bif isIn I b then (match h.get b with
    | some (.row _ _ cs) => bif tst (∀ x ∈ cs, GVal x) then some (gslV l off false (cs.map nf)) else none
    | _ => none) else some (.slice (some ⟨b, off, none⟩) l c)
  | v => some v
noncomputable def fzL (h : AH) (I : List Nat) : List Value → Option (List Value)
  | [] => some []
  | v :: r => match fz1 h I v with
    | some u => match fzL h I r with
      | some us => some (u :: us)
      | none => none
    | none => none
noncomputable def fzB (h : AH) (I : List Nat) : List Blk → Option (List Blk)
  | [] => some []
  | .row false z cs :: r => match fzL h I cs with
    | some us => match fzB h I r with
      | some bs => some (.row false z us :: bs)
      | none => none
    | none => none
  | _ :: _ => none
theorem fzL_get {h : AH} {I : List Nat} : ∀ {vs us : List Value}, fzL h I vs = some us → us.length = vs.length ∧ ∀ (j : Nat) (v u : Value), vs[j]? = some v → us[j]? = some u → fz1 h I v = some u := by
  intro vs
  induction vs with
  | nil => intro us hu; cases hu; exact ⟨rfl, fun j v u hv => by simp at hv⟩
  | cons a r ih =>
    intro us hu
    unfold fzL at hu
    split at hu
    · rename_i a' ha
      split at hu
      · rename_i us' hus
        cases hu
        obtain ⟨h1, h2⟩ := ih hus
        refine ⟨by simp [h1], fun j v u hv hu' => ?_⟩
        cases j with
        | zero => simp at hv hu'; subst hv hu'; exact ha
        | succ j => exact h2 j v u (by simpa using hv) (by simpa using hu')
      · cases hu
    · cases hu
theorem fzB_get {h : AH} {I : List Nat} : ∀ {bs bs1 : List Blk}, fzB h I bs = some bs1 → bs1.length = bs.length ∧ ∀ (j : Nat) (b1 : Blk), bs1[j]? = some b1 → ∃ z cs us, bs[j]? = some (.row false z cs) ∧ b1 = .row false z us ∧ fzL h I cs = some us := by
  intro bs
  induction bs with
  | nil => intro bs1 hu; cases hu; exact ⟨rfl, fun j b hb => by simp at hb⟩
  | cons a r ih =>
    intro bs1 hu
    unfold fzB at hu
    split at hu
    · rename_i heq; cases heq
    · rename_i z cs r' heq
      obtain ⟨rfl, rfl⟩ := List.cons.inj heq
      split at hu
      · rename_i us hus
        split at hu
        · rename_i bs' hbs
          cases hu
          obtain ⟨h1, h2⟩ := ih hbs
          refine ⟨by simp [h1], fun j b1 hb1 => ?_⟩
          cases j with
          | zero => simp at hb1; subst hb1; exact ⟨z, cs, us, rfl, rfl, hus⟩
          | succ j => simpa using h2 j b1 (by simpa using hb1)
        · cases hu
      · cases hu
    · cases hu
theorem fz1_rel {gl : Nat → Option Nat} {μ μ2 : Mu} {h : AH} {w : World} {n : Nat} (hh : HRel gl μ h w) {I : List Nat} (hl : ∀ i, μ2 i = μ i) (hn : h.next ≤ n) (h1 : ∀ B C, μ.fr B = some C → μ2.fr B = some C)
    (h2 : ∀ i ∈ I, (∃ b, h.get i = some b) → ∀ C e fz, w.heap[(μ i).b]? = some (.cells C e fz) → μ2.fr (μ i).b = some C) {v u c : Value} (hu : fz1 h I v = some u) (hr : VRel μ h.next v c) : VRel μ2 n u c := by
  have same : ∀ {v c : Value}, VRel μ h.next v c → VRel μ2 n v c := fun hv => hv.mono (X := fun _ => True) ⟨fun i _ => hl i, h1, fun _ _ _ => .inr trivial⟩ hn
  unfold fz1 at hu
  split at hu
  · rename_i b off l cap
    cases hb : isIn I b with
    | false => rw [hb] at hu; cases hu; exact same hr
    | true =>
      rw [hb] at hu
      dsimp only [cond_true] at hu
      split at hu
      · rename_i ro z cs hrow
        cases ht : tst (∀ x ∈ cs, GVal x) with
        | false => rw [ht] at hu; cases hu
        | true =>
          rw [ht] at hu
          cases hu
          have hbI : b ∈ I := by
            unfold isIn at hb
            obtain ⟨y, hy, he⟩ := List.any_eq_true.1 hb
            rw [Nat.eq_of_beq_eq_true he]; exact hy
          have hgz : gz 20 1 h (.slice (some ⟨b, off, none⟩) l cap) some = some (gslV l off false cs) := by
            show gz (19 + 1) 1 h _ some = _
            simp only [gz, hrow, ht, cond_true]
          have := gz_ok (I := [b]) hh h1 (fun i hi => by rw [List.mem_singleton.1 hi]; exact h2 b hbI ⟨_, hrow⟩) 20 1 _ _ hgz (fun i hi => ?_) c hr
          · exact (VRel.closed (μ := μ2) (fun B C hB => hB) this).gsl_nf
          · simp only [gzI, hrow, List.mem_singleton] at hi
            rw [hi]; simp
      · cases hu
  · cases hu; exact same hr

def putAll : List Nat → List Blk → Tr Blk → Tr Blk
  | i :: r, b :: bs, t => (putAll r bs t).set i (some b)
  | _, _, t => t
theorem putAll_get : ∀ (ids : List Nat) (bs : List Blk) (t : Tr Blk) (i : Nat), ids.Nodup → ids.length = bs.length → (∀ j : Nat, ids[j]? = some i → (putAll ids bs t).get i = bs[j]?) ∧ (i ∉ ids → (putAll ids bs t).get i = t.get i)
  | [], [], t, i, _, _ => ⟨fun j hj => by simp at hj, fun _ => rfl⟩
  | a :: r, b :: bs, t, i, hn, hl => by
    obtain ⟨h1, h2⟩ := putAll_get r bs t i (List.nodup_cons.1 hn).2 (by simpa using hl)
    refine ⟨fun j hj => ?_, fun hi => ?_⟩
    · show ((putAll r bs t).set a (some b)).get i = _
      rw [Tr.get_set]
      cases j with
      | zero => simp at hj; rw [if_pos hj.symm]; rfl
      | succ j =>
        have hj' : r[j]? = some i := by simpa using hj
        rw [if_neg (fun e => (List.nodup_cons.1 hn).1 (by rw [← e]; exact List.mem_of_getElem? hj'))]
        rw [h1 j hj']; rfl
    · show ((putAll r bs t).set a (some b)).get i = _
      rw [Tr.get_set, if_neg (fun e => hi (by rw [e]; simp))]
      exact h2 (fun h => hi (by simp [h]))
  | [], _ :: _, _, _, _, hl => by simp at hl
  | _ :: _, [], _, _, _, hl => by simp at hl
theorem picks_set {t : Nat} {v : Option Value} : ∀ (ts : List Nat) (T : Tr Value), t ∉ ts → picks ts (T.set t v) = picks ts T
  | [], _, _ => rfl
  | u :: ts, T, h => by
    unfold picks
    rw [Tr.get_set, if_neg (fun e => h (by rw [e]; simp)), picks_set ts T (fun g => h (by simp [g]))]
theorem picks_self : ∀ (ts : List Nat) (us : List Value), ts.Nodup → us.length = ts.length → picks ts (mkT ts us) = some us
  | [], [], _, _ => rfl
  | t :: ts, u :: us, hn, hl => by
    show picks (t :: ts) ((mkT ts us).set t (some u)) = _
    unfold picks
    rw [Tr.get_set, if_pos rfl, picks_set ts _ (List.nodup_cons.1 hn).1, picks_self ts us (List.nodup_cons.1 hn).2 (by simpa using hl)]
  | [], _ :: _, _, hl => by simp at hl
  | _ :: _, [], _, hl => by simp at hl
theorem picks_len : ∀ {ts : List Nat} {T : Tr Value} {vs : List Value}, picks ts T = some vs → vs.length = ts.length
  | [], T, vs, h => by cases h; rfl
  | t :: ts, T, vs, h => by
    unfold picks at h
    split at h
    · split at h
      · rename_i hvs
        cases h
        simp [picks_len hvs]
      · cases h
    · cases h
theorem picksH_self : ∀ (ids : List Nat) (bs : List Blk) (h : AH), (∀ (j i : Nat), ids[j]? = some i → h.get i = bs[j]?) → ids.length = bs.length → picksH ids h = some bs
  | [], [], _, _, _ => rfl
  | a :: r, b :: bs, h, hg, hl => by
    unfold picksH
    rw [hg 0 a rfl]
    show (match some b with
      | some b => match picksH r h with
        | some l => some (b :: l)
        | none => none
      | none => none) = _
    dsimp only
    rw [picksH_self r bs h (fun j i hj => by simpa using hg (j + 1) i (by simpa using hj)) (by simpa using hl)]
  | [], _ :: _, _, _, hl => by simp at hl
  | _ :: _, [], _, _, hl => by simp at hl

/-- Some rows are frozen, the others called otherwise. -/
theorem covers_HZ {l : VTabs} (hG : GTab l) {ts ids I dl : List Nat} {vs us vs2 : List Value} {bs bs1 bs2 : List Blk} {σ1 : St} {n : Nat} (hn : σ1.n = n) (hd : σ1.ds = []) (hp : picks ts σ1.T = some vs) (hus : fzL σ1.h I vs = some us) (hb : picksH ids σ1.h = some bs) (hbs : fzB σ1.h I bs = some bs1)
    (htd : ts.Nodup) (hnd : ids.Nodup) (hge : ∀ i ∈ ids, l.length ≤ i) (hI : ∀ i ∈ I, l.length ≤ i ∧ i ∉ ids) (hlen : bs2.length = bs1.length)
    (hv : RenL (idk l.length ids) (idd l.length dl) (l.length + bs2.length) vs2 us) (hB : ∀ (i : Nat) (b b1 : Blk), bs2[i]? = some b → bs1[i]? = some b1 → RenB (idk l.length ids) (idd l.length dl) (l.length + bs2.length) (idx dl i) b b1) (hro : ∀ b ∈ bs2, b.ro = false) :
    Covers (glV l) (hV l) (stT ts vs2 n (mkHV l bs2)) σ1 := by
  obtain ⟨k1, k2⟩ := picksH_get hb
  obtain ⟨m1, m2⟩ := fzB_get hbs
  obtain ⟨u1, u2⟩ := fzL_get hus
  have hil : ids.length = bs1.length := by rw [m1, k1]
  have hpl : us.length = ts.length := by rw [u1, picks_len hp]
  let hm : AH := ⟨putAll ids bs1 (hW 0 l .nil), σ1.h.next⟩
  have hmg : ∀ i : Nat, (∀ j : Nat, ids[j]? = some i → hm.get i = bs1[j]?) ∧ (i ∉ ids → hm.get i = (hV l).get i) := fun i => putAll_get ids bs1 (hW 0 l .nil) i hnd hil
  -- a row of the middle heap
  have hmc : ∀ (i : Nat) (b : Blk), hm.get i = some b → (∃ z cs cs', σ1.h.get i = some (.row false z cs) ∧ b = .row false z cs' ∧ fzL σ1.h I cs = some cs' ∧ i ∈ ids) ∨ (i ∉ ids ∧ (hV l).get i = some b) := by
    intro i b hi
    by_cases him : i ∈ ids
    · left
      obtain ⟨j, hj⟩ := List.getElem?_of_mem him
      rw [(hmg i).1 j hj] at hi
      obtain ⟨z, cs, cs', g1, g2, g3⟩ := m2 j b hi
      obtain ⟨i', g4, g5⟩ := k2 j _ g1
      rw [hj] at g4
      cases g4
      exact ⟨z, cs, cs', g5, g2, g3, him⟩
    · exact .inr ⟨him, by rw [← (hmg i).2 him]; exact hi⟩
  refine Covers.trans (b := ⟨mkT ts us, n, hm, []⟩) (covers_HV hG rfl rfl (picks_self ts us htd hpl) (picksH_self ids bs1 hm (fun j i hj => (hmg i).1 j hj) hil) hlen hv hB hnd hge hro) ?_
  intro μE μ1 wE w a hE hs f
  generalize hT : (fun B => (∃ C, μ1.fr B = some C) ∨ ∃ i ∈ I, (∃ b, σ1.h.get i = some b) ∧ (μ1 i).b = B) = T
  have hTB : ∀ B, T B ↔ (∃ C, μ1.fr B = some C) ∨ ∃ i ∈ I, (∃ b, σ1.h.get i = some b) ∧ (μ1 i).b = B := fun B => by rw [← hT]
  have h1 : ∀ B C, μ1.fr B = some C → (muS w T).fr B = some C := fun B C hB => muS_some.2 ⟨(hTB B).2 (.inl ⟨C, hB⟩), (hs.heap.fz B C hB).1⟩
  have h2 : ∀ i ∈ I, (∃ b, σ1.h.get i = some b) → ∀ C e fz, w.heap[(μ1 i).b]? = some (.cells C e fz) → (muS w T).fr (μ1 i).b = some C := fun i hi he C e fz hw => muS_some.2 ⟨(hTB _).2 (.inr ⟨i, hi, he, rfl⟩), e, fz, hw⟩
  have rel : ∀ {v u c : Value}, fz1 σ1.h I v = some u → VRel μ1 σ1.h.next v c → VRel ⟨μ1.loc, (muS w T).fr⟩ σ1.h.next u c := fun hu hr => fz1_rel (μ2 := ⟨μ1.loc, (muS w T).fr⟩) hs.heap (fun i => rfl) (Nat.le_refl _) h1 h2 hu hr
  have hown : ∀ i ∈ I, ∀ b, σ1.h.get i = some b → b.ro = false := fun i hi b hb' => by
    cases hr : b.ro with
    | false => rfl
    | true =>
      have := (hV_ro (f.ron i b hb' hr)).2
      have := (hI i hi).1
      omega
  have hvro : ∀ (i : Nat) (b : Blk), (hV l).get i = some b → σ1.h.get i = some b := fun i b h => f.ro i b h (hV_ro h).1
  -- what may be written is one's own
  have wr : ∀ B, Wr ⟨μ1.loc, (muS w T).fr⟩ hm B → ∃ i ∈ ids, ∃ z cs, σ1.h.get i = some (.row false z cs) ∧ (μ1 i).b = B := by
    rintro B ⟨i, b, hi, hr, hB'⟩
    rcases hmc i b hi with ⟨z, cs, cs', g1, g2, g3, g4⟩ | ⟨_, g⟩
    · exact ⟨i, g4, z, cs, g1, hB'⟩
    · rw [(hV_ro g).1] at hr; cases hr
  refine ⟨⟨μ1.loc, (muS w T).fr⟩, ⟨hs.size.trans hn, fun t v ht => ?_, ⟨⟨fun i b h => ?_, fun i b h => ?_, fun i j bi bj hi hj hne hr => ?_, fun g i hg => ?_⟩, fun B C hB' => ⟨(muS_some.1 hB').2, fun hw => ?_⟩⟩, ?_⟩,
    ⟨f.os, f.tape, f.output, f.size, f.next, ⟨fun i hi => f.ext.loc i hi, fun B C hB' => h1 B C (f.ext.fr B C hB'), fun B C hB' => ?_⟩, f.keep, fun B hB' => ?_, fun i b h hr => ?_, fun i b h hr => ?_⟩⟩
  · obtain ⟨j, v1, hj, hj1, ht1⟩ := picks_get hp us u1 t v ht
    obtain ⟨c, hc, hr⟩ := hs.tmps t v1 ht1
    exact ⟨c, hc, rel (u2 j v1 v hj1 hj) hr⟩
  · rcases hmc i b h with ⟨z, cs, cs', g1, _, _, _⟩ | ⟨_, g⟩
    · exact hs.heap.lt i _ g1
    · exact hs.heap.lt i _ (hvro i b g)
  · rcases hmc i b h with ⟨z, cs, cs', g1, rfl, g3, _⟩ | ⟨_, g⟩
    · obtain ⟨C, e, fz, hrow⟩ := hs.heap.blk i _ g1
      obtain ⟨q1, q2⟩ := fzL_get g3
      refine ⟨C, e, fz, hrow.at_, by rw [q1]; exact hrow.fits, fun j v hv => ?_, hrow.fr, fun h => by cases h⟩
      have hj : j < cs.length := by rw [← q1]; exact (List.getElem?_eq_some_iff.1 hv).1
      obtain ⟨c, hc, hr⟩ := hrow.cells j _ (List.getElem?_eq_getElem hj)
      exact ⟨c, hc, rel (q2 j _ v (List.getElem?_eq_getElem hj) hv) hr⟩
    · obtain ⟨x, hx, rfl⟩ := hV_get g
      obtain ⟨C, e, fz, hrow⟩ := hs.heap.blk i _ (hvro i _ g)
      refine ⟨C, e, fz, hrow.at_, hrow.fits, fun j v hv => ?_, hrow.fr, hrow.ex⟩
      obtain ⟨c, hc, hr⟩ := hrow.cells j v hv
      exact ⟨c, hc, (hG x (List.mem_of_getElem? hx) v (List.mem_of_getElem? hv)).vrel (μ' := ⟨μ1.loc, (muS w T).fr⟩) h1 hr⟩
  · have back : ∀ (i : Nat) (b : Blk), hm.get i = some b → ∃ b', σ1.h.get i = some b' ∧ b'.ro = b.ro := fun i b h => by
      rcases hmc i b h with ⟨z, cs, cs', g1, rfl, _, _⟩ | ⟨_, g⟩
      · exact ⟨_, g1, rfl⟩
      · exact ⟨b, hvro i b g, rfl⟩
    obtain ⟨bi', e1, e2⟩ := back i bi hi
    obtain ⟨bj', e3, _⟩ := back j bj hj
    exact hs.heap.sep i j bi' bj' e1 e3 hne (by rw [e2]; exact hr)
  · exact hs.heap.glob g i hg
  · obtain ⟨j, hj, z, cs, g1, g2⟩ := wr B hw
    rcases (hTB B).1 (muS_some.1 hB').1 with ⟨C', hC'⟩ | ⟨i, hi, ⟨b, hb'⟩, hiB⟩
    · exact (hs.heap.fz B C' hC').2 ⟨j, _, g1, rfl, g2⟩
    · exact hs.heap.sep i j b _ hb' g1 (fun e => (hI i hi).2 (e ▸ hj)) (hown i hi b hb') (hiB.trans g2.symm)
  · have := hs.ds
    rw [hd] at this
    show DRel _ _ [] a.defers
    rw [this.nilInv]
    exact .nil
  · obtain ⟨ht, e, fz, hw⟩ := muS_some.1 hB'
    rcases (hTB B).1 ht with ⟨C', h'⟩ | ⟨i, hi, ⟨b, hb'⟩, rfl⟩
    · obtain ⟨e', fz', hw'⟩ := (hs.heap.fz B C' h').1
      rw [hw] at hw'
      cases hw'
      exact f.ext.new B C h'
    · exact .inr (f.own _ ⟨i, b, hb', hown i hi b hb', rfl⟩)
  · obtain ⟨j, hj, z, cs, g1, g2⟩ := wr B hB'
    exact f.own B ⟨j, _, g1, rfl, g2⟩
  · rw [(hmg i).2 (fun him => by have := (hV_ro h).2; have := hge i him; omega)]
    exact h
  · rcases hmc i b h with ⟨z, cs, cs', _, rfl, _, _⟩ | ⟨_, g⟩
    · cases hr
    · exact g
/-- The same, with what comes next handed on. -/
noncomputable def fz1K {R : Type} (h : AH) (I : List Nat) (v : Value) (k : Value → Option R) : Option R := match v with
  | .slice (some ⟨b, off, none⟩) l c => bif isIn I b then (match h.get b with
    | some (.row _ _ cs) => bif tst (∀ x ∈ cs, GVal x) then k (gslV l off false (cs.map nf)) else none
    | _ => none) else k (.slice (some ⟨b, off, none⟩) l c)
  | v => k v
noncomputable def fzLK {R : Type} (h : AH) (I : List Nat) : List Value → (List Value → Option R) → Option R
  | [], k => k []
  | v :: r, k => fz1K h I v fun u => fzLK h I r fun us => k (u :: us)
noncomputable def fzBK {R : Type} (h : AH) (I : List Nat) : List Blk → (List Blk → Option R) → Option R
  | [], k => k []
  | .row false z cs :: r, k => fzLK h I cs fun us => fzBK h I r fun bs => k (.row false z us :: bs)
  | _ :: _, _ => none
theorem fz1K_eq {R : Type} (h : AH) (I : List Nat) (v : Value) (k : Value → Option R) : fz1K h I v k = match fz1 h I v with
    | some u => k u
    | none => none := by
  unfold fz1K fz1
  split
  · rename_i b off l c
    cases isIn I b with
    | false => rfl
    | true =>
      dsimp only [cond_true]
      split
      · rename_i cs _
        cases tst (∀ x ∈ cs, GVal x) <;> rfl
      · rfl
  · rfl
theorem fzLK_eq {R : Type} (h : AH) (I : List Nat) : ∀ (vs : List Value) (k : List Value → Option R), fzLK h I vs k = match fzL h I vs with
    | some us => k us
    | none => none := by
  intro vs
  induction vs with
  | nil => intro k; rfl
  | cons v r ih =>
    intro k
    unfold fzLK fzL
    rw [fz1K_eq]
    cases fz1 h I v with
    | none => rfl
    | some u =>
      dsimp only
      rw [ih]
      cases fzL h I r <;> rfl
theorem fzBK_eq {R : Type} (h : AH) (I : List Nat) : ∀ (bs : List Blk) (k : List Blk → Option R), fzBK h I bs k = match fzB h I bs with
    | some us => k us
    | none => none := by
  intro bs
  induction bs with
  | nil => intro k; rfl
  | cons b r ih =>
    intro k
    cases b with
    | mp ro es => rfl
    | row ro z cs =>
      cases ro with
      | true => rfl
      | false =>
        unfold fzBK fzB
        rw [fzLK_eq]
        cases fzL h I cs with
        | none => rfl
        | some us =>
          dsimp only
          rw [ih]
          cases fzB h I r <;> rfl
/-- What a piece of code leaves, of some temporaries and some rows, where other rows are frozen. -/
noncomputable def finHZ (ts ids I : List Nat) (x : XA) (σ : St) : Option (XA × List Value × List Blk × Nat) :=
  match σ.ds with
  | [] => match picks ts σ.T with
    | some vs => fzLK σ.h I vs fun us => match picksH ids σ.h with
      | some bs => fzBK σ.h I bs fun bs1 => some (x, us, bs1, σ.n)
      | none => none
    | none => none
  | _ :: _ => none
theorem finHZ_some {P : Program} {gl : Nat → Option Nat} {call : CallA} {callK : CK (XA × List Value × List Blk × Nat)} (hK : CKok call callK) {LO : LoopA} {LK : LoopK (XA × List Value × List Blk × Nat)} (hL : LKok LO LK) {c : Code} {σ : St} {ts ids I : List Nat} {y : XA} {us : List Value} {bs1 : List Blk} {n : Nat}
    (hr : codeG P gl call callK LK c σ (finHZ ts ids I) = some (y, us, bs1, n)) :
    ∃ σ1 vs bs, codeB P gl (regF P gl) call LO c σ = some (y, σ1) ∧ σ1.n = n ∧ σ1.ds = [] ∧ picks ts σ1.T = some vs ∧ fzL σ1.h I vs = some us ∧ picksH ids σ1.h = some bs ∧ fzB σ1.h I bs = some bs1 := by
  rw [codeG_eq hK hL] at hr
  split at hr
  · rename_i x σ1 hc
    unfold finHZ at hr
    split at hr
    · rename_i hd
      split at hr
      · rename_i vs hvs
        rw [fzLK_eq] at hr
        split at hr
        · rename_i us' hus
          split at hr
          · rename_i bs hbs
            rw [fzBK_eq] at hr
            split at hr
            · rename_i bs1' hbs1
              cases hr
              exact ⟨σ1, vs, bs, hc, rfl, hd, hvs, hus, hbs, hbs1⟩
            · cases hr
          · cases hr
        · cases hr
      · cases hr
    · cases hr
  · cases hr
/-- A round of a loop, with rows, where other rows are frozen. -/
noncomputable abbrev RZ (P : Program) (l : VTabs) (call : CallA) (callK : CK (XA × List Value × List Blk × Nat)) (LK : LoopK (XA × List Value × List Blk × Nat)) (fn : Func) (k : Nat) (ts ids I : List Nat) (vs : List Value) (h : AH) : Option (XA × List Value × List Blk × Nat) := codeG P (glV l) call callK LK (loopN fn k) (stT ts vs fn.ntmps h) (finHZ ts ids I)

end Go.Proofs.YtachednafdmmaaaDoor.AI
