/- The abstract interpreter: a heap's blocks by other names, rows cut at their end, their room grown. -/
import Derived.Test.YtkjiomdgdnjgiaaAIld
namespace Go.Proofs.Ytkjiomdgdnjgiaa.AI
open Go Go.RowKit
set_option linter.unusedVariables false
set_option linter.unusedSimpArgs false

/-- A value whose blocks go by other names, and have more room (the new one first). -/
inductive RenE (ρ ε : Nat → Nat) (n : Nat) : Value → Value → Prop where
  | plain (v : Value) : plain1 v = true → RenE ρ ε n v v
  | gv (v : Value) : GVal v → RenE ρ ε n v v
  | ptr (b o : Nat) : b < n → RenE ρ ε n (.pointer (some ⟨b, o, none⟩)) (.pointer (some ⟨ρ b, o, none⟩))
  | slc (b o l c c' : Nat) : b < n → l ≠ 0 → (∀ s, l + c / 2 + c % 2 * (s + ε b) = l + c' / 2 + c' % 2 * s) → RenE ρ ε n (.slice (some ⟨b, o, none⟩) l c) (.slice (some ⟨ρ b, o, none⟩) l c')
def RenEL (ρ ε : Nat → Nat) (n : Nat) (xs ys : List Value) : Prop := xs.length = ys.length ∧ ∀ (i : Nat) (x y : Value), xs[i]? = some x → ys[i]? = some y → RenE ρ ε n x y
theorem RenEL.nil {ρ ε : Nat → Nat} {n : Nat} : RenEL ρ ε n [] [] := ⟨rfl, fun i x y h _ => by simp at h⟩
theorem RenEL.cons {ρ ε : Nat → Nat} {n : Nat} {x y : Value} {xs ys : List Value} (h : RenE ρ ε n x y) (t : RenEL ρ ε n xs ys) : RenEL ρ ε n (x :: xs) (y :: ys) := by
  refine ⟨by simp [t.1], fun i a b ha hb => ?_⟩
  cases i with
  | zero => simp at ha hb; subst ha hb; exact h
  | succ i => exact t.2 i a b (by simpa using ha) (by simpa using hb)

def renE (ρ ε : Nat → Nat) (μ : Mu) : Mu := ⟨fun i => ⟨(μ (ρ i)).b, (μ (ρ i)).o, (μ (ρ i)).s + ε i⟩, μ.fr⟩
theorem RenE.vrel {ρ ε : Nat → Nat} {n : Nat} {μ : Mu} {n1 : Nat} {v2 v1 : Value} (h : RenE ρ ε n v2 v1) {c : Value} (hc : VRel μ n1 v1 c) : VRel (renE ρ ε μ) n v2 c := by
  cases h with
  | plain v hv =>
    rw [hc.plain_eq hv]
    exact .plain _ hv
  | gv v hv => exact hv.vrel (μ := μ) (μ' := renE ρ ε μ) (fun _ _ h => h) hc
  | ptr b o hb =>
    obtain ⟨_, rfl⟩ := hc.pointer
    exact VRel.ptr (μ := renE ρ ε μ) b o hb
  | slc b o l c c' hb hl he =>
    cases hc with
    | plain v hv => simp [plain1] at hv
    | slc b' o1 l' k' hb' =>
      have := VRel.slc (μ := renE ρ ε μ) b o l c hb
      have e : l + c / 2 + c % 2 * (renE ρ ε μ b).s = l + c' / 2 + c' % 2 * (μ (ρ b)).s := he (μ (ρ b)).s
      rw [e] at this
      exact this
    | slc0 b' o1 o'' hb' hs => exact absurd rfl hl

def RenEB (ρ ε : Nat → Nat) (n e : Nat) : Blk → Blk → Prop
  | .row r z cs, .row r' z' cs' => r = r' ∧ z = z' ∧ ∃ us tl, cs' = us ++ tl ∧ RenEL ρ ε n cs us ∧ e * z ≤ tl.length
  | _, _ => False
theorem RenEB.ro {ρ ε : Nat → Nat} {n e : Nat} {b b1 : Blk} (h : RenEB ρ ε n e b b1) : b1.ro = b.ro := by
  cases b <;> cases b1 <;> first | exact h.elim | exact h.1.symm

theorem covers_E {ρ ε : Nat → Nat} {σ2 σ1 : St} (hn : σ1.n = σ2.n) (hT : ∀ (t : Nat) (v : Value), σ2.T.get t = some v → ∃ v1, σ1.T.get t = some v1 ∧ RenE ρ ε σ2.h.next v v1)
    (dom : ∀ (i : Nat) (b : Blk), σ2.h.get i = some b → i < σ2.h.next) (blk : ∀ (i : Nat) (b : Blk), σ2.h.get i = some b → ∃ b1, σ1.h.get (ρ i) = some b1 ∧ RenEB ρ ε σ2.h.next (ε i) b b1)
    (inj : ∀ (i j : Nat) (bi bj : Blk), σ2.h.get i = some bi → σ2.h.get j = some bj → ρ i = ρ j → i = j) (hd2 : σ2.ds = []) (hd1 : σ1.ds = []) : Covers gl0 h0 σ2 σ1 := by
  intro μE μ1 wE w a _ hs f
  refine ⟨renE ρ ε μ1, ⟨hs.size.trans hn, fun t v ht => ?_, ⟨⟨dom, fun i b hb => ?_, fun i j bi bj hi hj hne hr => ?_, fun g i hg => (by cases hg)⟩, fun B C hB => ⟨(hs.heap.fz B C hB).1, fun ⟨i, b, hi, hr, hb⟩ => by obtain ⟨b1, h1, h2⟩ := blk i b hi; exact (hs.heap.fz B C hB).2 ⟨ρ i, b1, h1, h2.ro.trans hr, hb⟩⟩⟩, ?_⟩,
    ⟨f.os, f.tape, f.output, f.size, Nat.zero_le _, ⟨fun i hi => absurd hi (Nat.not_lt_zero i), f.ext.fr, f.ext.new⟩, f.keep, fun B hB => ?_, fun i b hi => (by simp [h0, AH.get, Tr.get_nil] at hi), fun i b hb hr => ?_⟩⟩
  · obtain ⟨v1, h1, h2⟩ := hT t v ht
    obtain ⟨c, h3, h4⟩ := hs.tmps t v1 h1
    exact ⟨c, h3, h2.vrel h4⟩
  · obtain ⟨b1, h1, h2⟩ := blk i b hb
    have hat := hs.heap.blk _ _ h1
    cases b with
    | row r z cs =>
      cases b1 with
      | mp r' es' => exact h2.elim
      | row r' z' cs' =>
        obtain ⟨rfl, rfl, us, tl, rfl, h3, he⟩ := h2
        obtain ⟨C, e, fz, hr⟩ := hat
        refine ⟨C, e, fz, hr.at_, ?_, fun j v hj => ?_, hr.fr⟩
        · have := hr.fits
          have hl := h3.1
          simp only [renE, List.length_append, Nat.add_mul] at this ⊢
          omega
        · have hj' : j < us.length := by rw [← h3.1]; exact (List.getElem?_eq_some_iff.1 hj).1
          have hg : us[j]? = some us[j] := List.getElem?_eq_getElem hj'
          obtain ⟨c, g1, g2⟩ := hr.cells j us[j] (by rw [List.getElem?_append_left hj']; exact hg)
          exact ⟨c, g1, (h3.2 j v _ hj hg).vrel g2⟩
    | mp r es => cases b1 <;> exact h2.elim
  · obtain ⟨b1, h1, h2⟩ := blk i bi hi
    obtain ⟨b2, h3, h4⟩ := blk j bj hj
    exact hs.heap.sep _ _ b1 b2 h1 h3 (fun e => hne (inj i j bi bj hi hj e)) (h2.ro.trans hr)
  · have := hs.ds
    rw [hd1] at this
    rw [hd2, this.nilInv]
    exact .nil
  · obtain ⟨i, b, hi, hr, hb⟩ := hB
    obtain ⟨b1, h1, h2⟩ := blk i b hi
    exact f.own B ⟨ρ i, b1, h1, h2.ro.trans hr, hb⟩
  · obtain ⟨b1, h1, h2⟩ := blk i b hb
    have := f.ron _ _ h1 (h2.ro.trans hr)
    simp [h0, AH.get, Tr.get_nil] at this

/-- A heap of these blocks, by these names. -/
def mkL : List Nat → List Blk → Tr Blk
  | i :: is, b :: bs => (mkL is bs).set i (some b)
  | _, _ => .nil
theorem picksH_mkL : ∀ {ids : List Nat} {bs : List Blk} {h : AH}, picksH ids h = some bs → ∀ (i : Nat) (b : Blk), (mkL ids bs).get i = some b → h.get i = some b := by
  intro ids
  induction ids with
  | nil =>
    intro bs h hp i b hb
    cases hp
    simp [mkL, Tr.get_nil] at hb
  | cons u ids ih =>
    intro bs h hp i b hb
    unfold picksH at hp
    split at hp
    · rename_i x hx
      split at hp
      · rename_i ws hw
        cases hp
        rw [mkL, Tr.get_set] at hb
        split at hb
        · rename_i e; cases hb; rw [e]; exact hx
        · exact ih hw i b hb
      · cases hp
    · cases hp
theorem mkL_get : ∀ {ids : List Nat} {bs : List Blk} (i : Nat) (b : Blk), (mkL ids bs).get i = some b → ∃ j : Nat, ids[j]? = some i ∧ bs[j]? = some b := by
  intro ids
  induction ids with
  | nil => intro bs i b hb; simp [mkL, Tr.get_nil] at hb
  | cons u ids ih =>
    intro bs i b hb
    cases bs with
    | nil => simp [mkL, Tr.get_nil] at hb
    | cons x bs =>
      rw [mkL, Tr.get_set] at hb
      split at hb
      · rename_i e; cases hb; subst e; exact ⟨0, rfl, rfl⟩
      · obtain ⟨j, h1, h2⟩ := ih i b hb; exact ⟨j + 1, by simpa using h1, by simpa using h2⟩

/-- What a piece of code leaves: temporaries, blocks, where new blocks begin. -/
def finN (ts ids : List Nat) (x : XA) (σ : St) : Option (XA × List Value × List Blk × Nat × Nat) := match σ.ds with
  | [] => match picks ts σ.T with
    | some vs => match picksH ids σ.h with
      | some bs => some (x, vs, bs, σ.h.next, σ.n)
      | none => none
    | none => none
  | _ :: _ => none
theorem finN_some {P : Program} {gl : Nat → Option Nat} {reg : CallA → Array Oper → St → Option St} {call : CallA} {callK : CK (XA × List Value × List Blk × Nat × Nat)} (hK : CKok call callK) {LO : LoopA} {LK : LoopK (XA × List Value × List Blk × Nat × Nat)} (hL : LKok LO LK) {c : Code} {σ : St} {ts ids : List Nat} {y : XA} {vs : List Value} {bs : List Blk} {nx n : Nat}
    (hr : codeBK P gl reg call callK LK c σ (finN ts ids) = some (y, vs, bs, nx, n)) :
    ∃ σ1, codeB P gl reg call LO c σ = some (y, σ1) ∧ picks ts σ1.T = some vs ∧ picksH ids σ1.h = some bs ∧ σ1.h.next = nx ∧ σ1.n = n ∧ σ1.ds = [] := by
  rw [codeBK_eq hK hL] at hr
  split at hr
  · rename_i x σ1 hc
    unfold finN at hr
    split at hr
    · rename_i hd
      split at hr
      · rename_i ws hw
        split at hr
        · rename_i cs hcs
          cases hr
          exact ⟨σ1, hc, hw, hcs, rfl, rfl, hd⟩
        · cases hr
      · cases hr
    · cases hr
  · cases hr

end Go.Proofs.Ytkjiomdgdnjgiaa.AI
