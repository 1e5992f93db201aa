/- A stack takes just so many calls: the loop by its rounds, and the whole. -/
import Derived.Test.YtnlfhfpccpokpaaSXk0
import Derived.Test.YtnlfhfpccpokpaaSXk1
import Derived.Test.YtnlfhfpccpokpaaSXk2
import Derived.Test.YtnlfhfpccpokpaaSXk3
import Derived.KernelRfl
namespace Go.Proofs.Ytnlfhfpccpokpaa.AI
open Go Go.RowKit
set_option linter.unusedVariables false
set_option linter.unusedSimpArgs false
set_option maxRecDepth 100000
theorem allk (k : Nat) (h : k < 255) : ST k := by
  by_cases h0 : k < 100
  · exact all0 k (Nat.zero_le _) h0
  by_cases h1 : k < 160
  · exact all1 k (by omega) h1
  by_cases h2 : k < 210
  · exact all2 k (by omega) h2
  exact all3 k (by omega) h
theorem stx : B3 (sk 255) (fin3 255) = some (.exit 0, vk 255, ak 255, bk 255, 107 + 14 * 255, 62) := by kernel_rfl
theorem regOK : RegOK Try.prog gl0 (regF Try.prog gl0) := regF_ok (by kernel_rfl)
theorem B3_some {σ : St} {k : Nat} {y : XA} {vs : List Value} {a b : Blk} {nx n : Nat} (hr : B3 σ (fin3 k) = some (y, vs, a, b, nx, n)) :
    ∃ σ1, codeB Try.prog gl0 (regF Try.prog gl0) (callA Try.prog gl0 (regF Try.prog gl0) 60 false) noLO (loopN Try.f3 0) σ = some (y, σ1) ∧ picks [2, 4, 5, 7] σ1.T = some vs ∧ σ1.h.get 106 = some a ∧ σ1.h.get (fid k) = some b ∧ σ1.h.next = nx ∧ σ1.n = n ∧ σ1.ds = [] := by
  unfold B3 at hr
  rw [codeBK_eq (inK_ok 60) (toLK_ok noLO)] at hr
  split at hr
  · rename_i x σ1 hc
    unfold fin3 at hr
    split at hr
    · rename_i hd
      split at hr
      · rename_i ws hw
        split at hr
        · rename_i a' ha
          split at hr
          · rename_i b' hb
            cases hr
            exact ⟨σ1, hc, hw, ha, hb, rfl, rfl, hd⟩
          · cases hr
        · cases hr
      · cases hr
    · cases hr
  · cases hr
theorem cov (k : Nat) {σ1 : St} (g2 : picks [2, 4, 5, 7] σ1.T = some (vk k)) (g3 : σ1.h.get 106 = some (ak k)) (g4 : σ1.h.get (fid k) = some (bk k)) (g5 : σ1.h.next = 107 + 14 * k) (g6 : σ1.n = 62) (g7 : σ1.ds = []) : Covers gl0 h0 (sk k) σ1 := by
  refine covers_sub g6 (fun t v h => picks_mkT g2 t v h) g5 (fun i b h => ?_) rfl g7
  have h' : ((Tr.nil.set 106 (some (ak k))).set (fid k) (some (bk k))).get i = some b := h
  rw [Tr.get_set] at h'
  split at h'
  · rename_i e; cases h'; rw [e]; exact g4
  · rw [Tr.get_set] at h'
    split at h'
    · rename_i e; cases h'; rw [e]; exact g3
    · rw [Tr.get_nil] at h'; cases h'
theorem loop3 : LoopTri Try.prog gl0 h0 (loopN Try.f3 0) (sk 0) (.exit 0) (sk 255) := by
  refine loop_rule (P := Try.prog) (X := {k : Nat // k ≤ 255}) regOK (callA_ok regOK 60).1 noLO_ok (fun k => sk k.1) (fun k => 255 - k.1) (fun _ => (.exit 0, sk 255)) (fun k => ?_) ⟨0, Nat.zero_le _⟩
  obtain ⟨k, hk⟩ := k
  by_cases h : k < 255
  · obtain ⟨σ1, g1, g2, g3, g4, g5, g6, g7⟩ := B3_some (allk k h)
    exact ⟨_, σ1, g1, .inl ⟨rfl, ⟨k + 1, h⟩, by show 255 - (k + 1) < 255 - k; omega, rfl, cov (k + 1) g2 g3 g4 g5 g6 g7⟩⟩
  · obtain rfl : k = 255 := by omega
    obtain ⟨σ1, g1, g2, g3, g4, g5, g6, g7⟩ := B3_some stx
    exact ⟨_, σ1, g1, .inr ⟨(by intro h; cases h), rfl, cov 255 g2 g3 g4 g5 g6 g7⟩⟩
noncomputable def fl3 : List Value → AH → Nat → Option (Bool × XA × St) := fun vs h n => match h.get 106 with
  | some a => match h.get 105 with
    | some b => some (tst (vs = vk 0 ∧ a = ak 0 ∧ b = bk 0 ∧ h.next = 107 ∧ n = 62), .exit 0, sk 255)
    | none => none
  | none => none
theorem fl3_ok (σ : St) (vs : List Value) (x : XA) (σ' : St) (hd : σ.ds = []) (hp : picks [2, 4, 5, 7] σ.T = some vs) (h : fl3 vs σ.h σ.n = some (true, x, σ')) : LoopTri Try.prog gl0 h0 (loopN Try.f3 0) σ x σ' := by
  unfold fl3 at h
  split at h
  · rename_i a ha
    split at h
    · rename_i b hb
      simp only [Option.some.injEq, Prod.mk.injEq] at h
      obtain ⟨ht, rfl, rfl⟩ := h
      obtain ⟨rfl, rfl, rfl, hx, hs⟩ := of_tst ht
      exact loop3.enter (cov 0 hp ha hb hx hs hd)
    · cases h
  · cases h
theorem loops3 : loopsOf (bodyOf Try.f3) = [loopN Try.f3 0] := by kernel_rfl
theorem known_run : runLI Try.prog gl0 (regF Try.prog gl0) 60 (lkQ 7 [2, 4, 5, 7] fl3 noLK) Try.f3 [] h0 = (bif tst (vk 0 = vk 0 ∧ ak 0 = ak 0 ∧ bk 0 = bk 0 ∧ 107 = 107 ∧ 62 = 62) then some (.bool true) else none) := by kernel_rfl
theorem known_walk (w : World) : Calls Try.prog 3 #[] w fun e w' => e = .returned (.bool true) ∧ Below w.heap.size w w' := by
  refine plain_callsLI (n := 60) regOK (lkQ_ok noLK_ok) Try.func3 rfl (by kernel_rfl) (loQ_ok (fun c hc hr σ vs x σ' hd hp hf => ?_) noLO_ok) (known_run.trans (by rw [tst_of ⟨rfl, rfl, rfl, rfl, rfl⟩]; rfl)) rfl rfl w
  rw [loops3] at hc
  rcases List.mem_cons.1 hc with rfl | hc
  · exact fl3_ok σ vs x σ' hd hp hf
  · cases hc

end Go.Proofs.Ytnlfhfpccpokpaa.AI
