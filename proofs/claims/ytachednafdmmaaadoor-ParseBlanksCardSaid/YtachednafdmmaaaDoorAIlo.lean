/- The abstract interpreter: between two rounds, rows of one's own become what they hold. -/
import Derived.Test.YtachednafdmmaaaDoorAIln
namespace Go.Proofs.YtachednafdmmaaaDoor.AI
open Go Go.RowKit
set_option linter.unusedVariables false
set_option linter.unusedSimpArgs false

theorem covers_G {l : VTabs} (hG : GTab l) {ts : List Nat} {vs us : List Value} {d n : Nat} {σ1 : St} (hn : σ1.n = n) (hd : σ1.ds = []) (hp : picks ts σ1.T = some vs) (hz : gzL (gz 20 d σ1.h) vs some = some us)
    (hids : (vs.flatMap (gzI 20 d σ1.h)).all (fun i => Nat.ble l.length i) = true) : Covers (glV l) (hV l) (stT ts us n (hV l)) σ1 := by
  intro μE μ1 wE w a hE hs f
  generalize hI : vs.flatMap (gzI 20 d σ1.h) = I at hids
  generalize hT : (fun B => (∃ C, μ1.fr B = some C) ∨ ∃ i ∈ I, (μ1 i).b = B) = T
  have hTB : ∀ B, T B ↔ (∃ C, μ1.fr B = some C) ∨ ∃ i ∈ I, (μ1 i).b = B := fun B => by rw [← hT]
  have h1 : ∀ B C, μ1.fr B = some C → (muS w T).fr B = some C := fun B C hB => muS_some.2 ⟨(hTB B).2 (.inl ⟨C, hB⟩), (hs.heap.fz B C hB).1⟩
  have h2 : ∀ i ∈ I, ∀ C e fz, w.heap[(μ1 i).b]? = some (.cells C e fz) → (muS w T).fr (μ1 i).b = some C := fun i hi C e fz hw => muS_some.2 ⟨(hTB _).2 (.inr ⟨i, hi, rfl⟩), e, fz, hw⟩
  obtain ⟨q1, q2⟩ := gzL_get (f1 := gz 20 d σ1.h) (fun v k => gz_nat 20 d σ1.h v k) vs us hz
  have hro : ∀ (i : Nat) (b : Blk), (hV l).get i = some b → σ1.h.get i = some b := fun i b h => f.ro i b h (hV_ro h).1
  have hnw : ∀ (μ : Mu) B, ¬ Wr μ (hV l) B := fun μ B ⟨i, b, h, hr, _⟩ => by rw [(hV_ro h).1] at hr; cases hr
  refine ⟨⟨μ1.loc, (muS w T).fr⟩, ⟨hs.size.trans hn, fun t v ht => ?_, ⟨⟨fun i b h => (hV_ro h).2, fun i b h => ?_, fun i j bi bj hi hj hne hr => ?_, fun g i hg => ?_⟩, fun B C hB => ⟨(muS_some.1 hB).2, hnw _ B⟩⟩, ?_⟩,
    ⟨f.os, f.tape, f.output, f.size, Nat.le_refl _, ⟨fun i hi => f.ext.loc i hi, fun B C hB => h1 B C (f.ext.fr B C hB), fun B C hB => ?_⟩, f.keep, fun B hB => absurd hB (hnw _ B), fun i b h _ => h, fun i b h _ => h⟩⟩
  · obtain ⟨j, v1, hj, hj1, ht1⟩ := picks_get hp us q1 t v ht
    obtain ⟨c, hc, hr⟩ := hs.tmps t v1 ht1
    refine ⟨c, hc, VRel.closed (μ := muS w T) (μ' := ⟨μ1.loc, (muS w T).fr⟩) (fun B C hB => hB) (gz_ok hs.heap h1 h2 20 d v1 v (q2 j v1 v hj1 hj) (fun i hi => ?_) c hr)⟩
    rw [← hI]
    exact List.mem_flatMap.2 ⟨v1, List.mem_of_getElem? hj1, hi⟩
  · obtain ⟨x, hx, rfl⟩ := hV_get h
    obtain ⟨C, e, fz, hrow⟩ := hs.heap.blk i _ (hro i _ h)
    refine ⟨C, e, fz, hrow.at_, hrow.fits, fun j v hv => ?_, hrow.fr, hrow.ex⟩
    obtain ⟨c, hc, hr⟩ := hrow.cells j v hv
    exact ⟨c, hc, (hG x (List.mem_of_getElem? hx) v (List.mem_of_getElem? hv)).vrel (μ' := ⟨μ1.loc, (muS w T).fr⟩) h1 hr⟩
  · rw [(hV_ro hi).1] at hr; cases hr
  · obtain ⟨_, x, hx, _⟩ := glW_some hg
    rw [Nat.sub_zero] at hx
    obtain ⟨_, g2, g3⟩ := hs.heap.glob g i hg
    exact ⟨(List.getElem?_eq_some_iff.1 hx).1, g2, g3⟩
  · have := hs.ds
    rw [hd] at this
    show DRel _ _ [] a.defers
    rw [this.nilInv]
    exact .nil
  · obtain ⟨ht, e, fz, hw⟩ := muS_some.1 hB
    rcases (hTB B).1 ht with ⟨C', h'⟩ | ⟨i, hi, rfl⟩
    · obtain ⟨e', fz', hw'⟩ := (hs.heap.fz B C' h').1
      rw [hw] at hw'
      cases hw'
      exact f.ext.new B C h'
    · right
      have hge := Nat.le_of_ble_eq_true (List.all_eq_true.1 hids i hi)
      rw [← hI] at hi
      obtain ⟨v1, _, hv1⟩ := List.mem_flatMap.1 hi
      obtain ⟨b, hb⟩ := gzI_row 20 d σ1.h v1 i hv1
      cases hr : b.ro with
      | true =>
        have := (hV_ro (f.ron i b hb hr)).2
        omega
      | false => exact f.own _ ⟨i, b, hb, hr, rfl⟩
/-- What a piece of code leaves, rows of one's own by what they hold. -/
noncomputable def finZ (ts : List Nat) (d n0 : Nat) (x : XA) (σ : St) : Option (XA × List Value × Nat) :=
  match σ.ds with
  | [] => match picks ts σ.T with
    | some vs => bif (vs.flatMap (gzI 20 d σ.h)).all (fun i => Nat.ble n0 i) then (match gzL (gz 20 d σ.h) vs some with
      | some us => some (x, us, σ.n)
      | none => none) else none
    | none => none
  | _ :: _ => none
theorem finZ_some {P : Program} {l : VTabs} (hG : GTab l) {call : CallA} {callK : CK (XA × List Value × Nat)} (hK : CKok call callK) {LO : LoopA} {LK : LoopK (XA × List Value × Nat)} (hL : LKok LO LK) {c : Code} {σ : St} {ts : List Nat} {d : Nat} {y : XA} {us : List Value} {n : Nat}
    (hr : codeG P (glV l) call callK LK c σ (finZ ts d l.length) = some (y, us, n)) :
    ∃ σ1, codeB P (glV l) (regF P (glV l)) call LO c σ = some (y, σ1) ∧ Covers (glV l) (hV l) (stT ts us n (hV l)) σ1 := by
  rw [codeG_eq hK hL] at hr
  split at hr
  · rename_i x σ1 hc
    unfold finZ at hr
    split at hr
    · rename_i hd
      split at hr
      · rename_i vs hvs
        cases hq : (vs.flatMap (gzI 20 d σ1.h)).all (fun i => Nat.ble l.length i) with
        | false => rw [hq] at hr; cases hr
        | true =>
          rw [hq] at hr
          dsimp only [cond_true] at hr
          split at hr
          · rename_i us' hus
            cases hr
            exact ⟨σ1, hc, covers_G hG rfl hd hvs hus hq⟩
          · cases hr
      · cases hr
    · cases hr
  · cases hr
/-- A round of a loop; between two rounds there are no rows of one's own. -/
noncomputable abbrev FQ (P : Program) (l : VTabs) (call : CallA) (callK : CK (XA × List Value × Nat)) (LK : LoopK (XA × List Value × Nat)) (d : Nat) (fn : Func) (k : Nat) (ts : List Nat) (vs : List Value) : Option (XA × List Value × Nat) := codeG P (glV l) call callK LK (loopN fn k) (stT ts vs fn.ntmps (hV l)) (finZ ts d l.length)


/-- One covers another, which covers a third. -/
theorem Covers.trans {gl : Nat → Option Nat} {hE : AH} {a b c : St} (h1 : Covers gl hE a b) (h2 : Covers gl hE b c) : Covers gl hE a c := by
  intro μE μ1 wE w ac hE' hs f
  obtain ⟨μ2, g1, g2⟩ := h2 μE μ1 wE w ac hE' hs f
  exact h1 μE μ2 wE w ac hE' g1 g2
/-- A slice of a row that is to be frozen, as what it holds; all else as it is. -/
noncomputable def fz1 (h : AH) (I : List Nat) (v : Value) : Option Value := match v with
  | .slice (some ⟨b, off, none⟩) l c => bif isIn I b then (match h.get b with
    | some (.row _ _ cs) => bif tst (∀ x ∈ cs, GVal x) then some (gslV l off false (cs.map nf)) else none
    | _ => none) else some (.slice (some ⟨b, off, none⟩) l c)
  | v => some v
def putAll : List Nat → List Blk → Tr Blk → Tr Blk
  | i :: r, b :: bs, t => (putAll r bs t).set i (some b)
  | _, _, t => t
theorem putAll_get : ∀ (ids : List Nat) (bs : List Blk) (t : Tr Blk) (i : Nat), ids.Nodup → ids.length = bs.length → (∀ j : Nat, ids[j]? = some i → (putAll ids bs t).get i = bs[j]?) ∧ (i ∉ ids → (putAll ids bs t).get i = t.get i)
  | [], [], t, i, _, _ => ⟨fun j hj => by simp at hj, fun _ => rfl⟩
  | a :: r, b :: bs, t, i, hn, hl => by
    obtain ⟨h1, h2⟩ := putAll_get r bs t i (List.nodup_cons.1 hn).2 (by simpa using hl)
    refine ⟨fun j hj => ?_, fun hi => ?_⟩
    · show ((putAll r bs t).set a (some b)).get i = _
      rw [Tr.get_set]
      cases j with
      | zero => simp at hj; rw [if_pos hj.symm]; rfl
      | succ j =>
        have hj' : r[j]? = some i := by simpa using hj
        rw [if_neg (fun e => (List.nodup_cons.1 hn).1 (by rw [← e]; exact List.mem_of_getElem? hj'))]
        rw [h1 j hj']; rfl
    · show ((putAll r bs t).set a (some b)).get i = _
      rw [Tr.get_set, if_neg (fun e => hi (by rw [e]; simp))]
      exact h2 (fun h => hi (by simp [h]))
  | [], _ :: _, _, _, _, hl => by simp at hl
  | _ :: _, [], _, _, _, hl => by simp at hl
theorem picks_set {t : Nat} {v : Option Value} : ∀ (ts : List Nat) (T : Tr Value), t ∉ ts → picks ts (T.set t v) = picks ts T
  | [], _, _ => rfl
  | u :: ts, T, h => by
    unfold picks
    rw [Tr.get_set, if_neg (fun e => h (by rw [e]; simp)), picks_set ts T (fun g => h (by simp [g]))]
theorem picks_self : ∀ (ts : List Nat) (us : List Value), ts.Nodup → us.length = ts.length → picks ts (mkT ts us) = some us
  | [], [], _, _ => rfl
  | t :: ts, u :: us, hn, hl => by
    show picks (t :: ts) ((mkT ts us).set t (some u)) = _
    unfold picks
    rw [Tr.get_set, if_pos rfl, picks_set ts _ (List.nodup_cons.1 hn).1, picks_self ts us (List.nodup_cons.1 hn).2 (by simpa using hl)]
  | [], _ :: _, _, hl => by simp at hl
  | _ :: _, [], _, hl => by simp at hl
theorem picks_len : ∀ {ts : List Nat} {T : Tr Value} {vs : List Value}, picks ts T = some vs → vs.length = ts.length
  | [], T, vs, h => by cases h; rfl
  | t :: ts, T, vs, h => by
    unfold picks at h
    split at h
    · split at h
      · rename_i hvs
        cases h
        simp [picks_len hvs]
      · cases h
    · cases h
theorem picksH_self : ∀ (ids : List Nat) (bs : List Blk) (h : AH), (∀ (j i : Nat), ids[j]? = some i → h.get i = bs[j]?) → ids.length = bs.length → picksH ids h = some bs
  | [], [], _, _, _ => rfl
  | a :: r, b :: bs, h, hg, hl => by
    unfold picksH
    rw [hg 0 a rfl]
    show (match some b with
      | some b => match picksH r h with
        | some l => some (b :: l)
        | none => none
      | none => none) = _
    dsimp only
    rw [picksH_self r bs h (fun j i hj => by simpa using hg (j + 1) i (by simpa using hj)) (by simpa using hl)]
  | [], _ :: _, _, _, hl => by simp at hl
  | _ :: _, [], _, _, hl => by simp at hl

end Go.Proofs.YtachednafdmmaaaDoor.AI
