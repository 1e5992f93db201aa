/- Shapes. -/
import Derived.Test.YtjmmdpfmnnemoaaSXc
import Derived.KernelRfl
namespace Go.Proofs.Ytjmmdpfmnnemoaa.AI
open Go Go.RowKit 
set_option linter.unusedVariables false
set_option linter.unusedSimpArgs false
theorem row_shapes : ∀ {l : Nat} {c : List Value}, RowOk [.int .i64, .int .i64, .int .u64] l c → ∃ S : List Sh, S.length = l ∧ c = flt S ∧ ∀ s ∈ S, s.2.2 < 2 ^ 64 := by
  intro l
  induction l with
  | zero => intro c h; cases h; exact ⟨[], rfl, rfl, fun s hs => by cases hs⟩
  | succ l ih =>
    rintro c ⟨a, r, rfl, ha, hr⟩
    obtain ⟨S, h1, rfl, h3⟩ := ih hr
    cases ha with
    | cons g1 g2 =>
      cases g2 with
      | cons g3 g4 =>
        cases g4 with
        | cons g5 g6 =>
          cases g6
          obtain ⟨x, rfl, _⟩ := g1
          obtain ⟨y, rfl, _⟩ := g3
          obtain ⟨z, rfl, hz⟩ := g5
          have hz' : 0 ≤ z ∧ z < 2 ^ 64 := by
            have h := hz
            simp [Lit.wf, IntKind.min, IntKind.max, IntKind.bits, IntKind.signed] at h
            omega
          obtain ⟨m, rfl⟩ : ∃ m : Nat, z = m := ⟨z.toNat, by omega⟩
          refine ⟨(x, y, m) :: S, by simp [h1], rfl, fun s hs => ?_⟩
          rcases List.mem_cons.1 hs with rfl | hs
          · dsimp only; omega
          · exact h3 s hs
theorem loops5 : loopsOf (bodyOf Try.f5) = [loopN Try.f5 0] := by kernel_rfl
theorem loO_ok {S : List Sh} {σ' : St} (hσ : LoopTri Try.prog (glV lq) (hV lq) (loopN Try.f5 0) (SS S [] 0) (.exit 0) σ') : LoopsOK Try.prog (glV lq) (hV lq) (loO (gslV S.length 0 false (flt S)) σ') (loopsOf (bodyOf Try.f5)) := by
  refine loQ_ok (fun c' hc _ σ vs x' σ2 hd hp h' => ?_) noLO_ok
  rw [loops5, List.mem_singleton] at hc
  subst hc
  unfold fO at h'
  split at h'
  · rename_i xs hx
    simp only [Option.some.injEq, Prod.mk.injEq] at h'
    obtain ⟨ht, rfl, rfl⟩ := h'
    obtain ⟨rfl, rfl, hn⟩ := of_tst ht
    refine hσ.enter ?_
    refine covers_HV (l := lq) lq_g (ids := [1, 0]) (dl := [0, 0]) (bs2 := b0) hn hd hp hx rfl ?_ ?_ (by decide) (fun i _ => Nat.zero_le i) ?_
    · exact .cons (.gv _ (.gsl _ _ _ _ (flt_g S))) (.cons (.ptr 0 0 0 (show 0 < 2 by decide) rfl) (.cons (.plain _ rfl) (.cons (.plain _ rfl) .nil)))
    · intro j x0 x1 h0 h1
      match j with
      | 0 => cases h0; cases h1; exact ⟨rfl, rfl, Nat.zero_le _, .cons (.plain _ rfl) (.cons (.mp 1 (show 1 < 2 by decide)) .nil)⟩
      | 1 => cases h0; cases h1; exact ⟨rfl, .nil, .nil⟩
      | j + 2 => cases h0
    · intro x hx
      simp only [List.mem_cons, List.not_mem_nil, or_false] at hx
      rcases hx with rfl | rfl <;> rfl
  · cases h'
theorem shapes_con (S : List Sh) (hm : ∀ s ∈ S, s.2.2 < 2 ^ 64) : ConQ Try.prog lq 5 [gslV S.length 0 false (flt S)] (.bool true) := by
  by_cases hS : S.length ≤ 60
  · have hd : decide ((S.length : Int) > 60) = false := decide_eq_false (by omega)
    have ht : tst ([gslV S.length 0 Bool.false (flt S), Value.pointer (some { block := 1, off := 0 }), Value.slice none 0 0, Value.int IntKind.i64 0] = [gslV S.length 0 Bool.false (flt S), Value.pointer (some { block := 1, off := 0 }), Value.slice none 0 0, Value.int IntKind.i64 0] ∧ [Blk.row Bool.false 1 [Value.slice none 0 0, Value.map (some 0)], Blk.mp Bool.false []] = [Blk.row Bool.false 1 [Value.slice none 0 0, Value.map (some 0)], Blk.mp Bool.false []] ∧ 144 = 144) = true := tst_of ⟨rfl, rfl, rfl⟩
    have hlp := loop1 hS hm
    generalize hK : fin S [] = K at hlp
    cases K with
    | nil =>
      refine conQ hmix cA5_ok cK5_ok (lkQ_ok noLK_ok) Try.func5 rfl (by kernel_rfl) (loO_ok hlp) ((tF0 S.length (flt S)).trans ?_)
      rw [hd, ht]; rfl
    | cons t K =>
      refine conQ hmix cA5_ok cK5_ok (lkQ_ok noLK_ok) Try.func5 rfl (by kernel_rfl) (loO_ok hlp) ((tF1 S.length (t :: K).length (flt S) (flt (t :: K)) (flt (t :: K)) (ents 0 (t :: K))).trans ?_)
      rw [hd, ht, decide_eq_true (show ((t :: K).length : Int) ≥ ((t :: K).length : Int) from Int.le_refl _)]; rfl
  · refine conQ hmix cA5_ok cK5_ok noLK_ok Try.func5 rfl (by kernel_rfl) noLO_ok ((tH S.length (flt S)).trans ?_)
    rw [decide_eq_true (show (S.length : Int) > 60 by omega)]; rfl
theorem shapes_walk (l : Nat) (c : List Value) (v : Value) (w : World) (hr : RowOk [.int .i64, .int .i64, .int .u64] l c) (hl : l ≤ maxLen) (hx : VRel (mu0 w) 0 (gslV l 0 false c) v) : Calls Try.prog 5 #[v] w fun e w' => e = .returned (.bool true) ∧ Below w.heap.size w w' := by
  obtain ⟨S, rfl, rfl, hm⟩ := row_shapes hr
  refine (shapes_con S hm w (fun _ => True) #[v] (fun x hx => by cases hx) (.cons (VRel.closed (μ := mu0 w) (fun B C hB => ?_) hx) .nil)).mono ?_
  · obtain ⟨e, fz, h⟩ := frW_some.1 hB
    exact muS_some.2 ⟨trivial, e, fz, h⟩
  · rintro e w' ⟨c', rfl, h1, h2⟩
    exact ⟨by rw [h2.plainV_eq rfl], h1⟩
end Go.Proofs.Ytjmmdpfmnnemoaa.AI
