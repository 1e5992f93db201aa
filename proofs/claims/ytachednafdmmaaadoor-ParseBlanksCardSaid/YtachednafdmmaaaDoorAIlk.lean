/- The abstract interpreter: loops that are told; runs of a loop's body; functions gone into or told by a table. -/
import Derived.Test.YtachednafdmmaaaDoorAIli
import Derived.Test.YtachednafdmmaaaDoorAIy
namespace Go.Proofs.YtachednafdmmaaaDoor.AI
open Go Go.RowKit
set_option linter.unusedVariables false
set_option linter.unusedSimpArgs false

def bodyRunK (P : Program) (gl : Nat → Option Nat) (call : CallA) (callK : CK (XA × List Value × AH × Nat)) (LK : LoopK (XA × List Value × AH × Nat)) (c : Code) (σ : St) (ts : List Nat) : Option (XA × List Value × AH × Nat) := codeG P gl call callK LK c σ (finT ts)
theorem ble_t {a b : Nat} (h : a ≤ b) : Nat.ble a b = true := Nat.ble_eq_true_of_le h
theorem beq_t {a b : Nat} (h : a = b) : Nat.beq a b = true := by subst h; exact Nat.beq_refl a
theorem beq_f {a b : Nat} (h : a ≠ b) : Nat.beq a b = false := by rw [← Bool.not_eq_true]; intro g; exact h (Nat.eq_of_beq_eq_true g)
theorem i64w (a : Int) : IntKind.i64.wrap a = (a + 9223372036854775808) % 18446744073709551616 - 9223372036854775808 := by
  simp [IntKind.wrap, IntKind.bits, IntKind.signed, Int.bmod_eq_emod]
  omega

variable {P : Program}
theorem bodyRunK_some {gl : Nat → Option Nat} {call : CallA} {callK : CK (XA × List Value × AH × Nat)} (hK : CKok call callK) {LO : LoopA} {LK : LoopK (XA × List Value × AH × Nat)} (hL : LKok LO LK) {c : Code} {σ : St} {ts : List Nat} {y : XA} {vs : List Value} {h : AH} {n : Nat} (hr : bodyRunK P gl call callK LK c σ ts = some (y, vs, h, n)) :
    ∃ σ1, codeB P gl (regF P gl) call LO c σ = some (y, σ1) ∧ picks ts σ1.T = some vs ∧ σ1.h = h ∧ σ1.n = n ∧ σ1.ds = [] := by
  refine bodyRun_some (LK := toLK LO) (toLK_ok LO) ?_
  unfold bodyRunK at hr
  rw [codeG_eq hK hL] at hr
  unfold bodyRun
  rw [codeBK_eq (toK_ok call) (toLK_ok LO)]
  exact hr
theorem loop_plainO {P : Program} {gl : Nat → Option Nat} (hm : P.follows .mixedOrders = true) {call : CallA} (hcall : CallOK P gl call) {callK : CK (XA × List Value × AH × Nat)} (hK : CKok call callK) {hE : AH} {LO : LoopA} {LK : LoopK (XA × List Value × AH × Nat)} (hL : LKok LO LK) {c : Code} (hl : LoopsOK P gl hE LO (loopsOf c)) (ts : List Nat) {X : Type} (enc : X → List Value) (m : X → Nat) (out : X → XA × List Value) {n : Nat} {h : AH}
    (step : ∀ x, ∃ y vs, bodyRunK P gl call callK LK c (stT ts (enc x) n h) ts = some (y, vs, h, n) ∧ ((y = .normal ∧ ∃ x', vs = enc x' ∧ m x' < m x ∧ out x' = out x) ∨ (y ≠ .normal ∧ out x = (y, vs)))) :
    ∀ x, LoopTri P gl hE c (stT ts (enc x) n h) (out x).1 (stT ts (out x).2 n h) := by
  refine loop_rule (regF_ok hm) hcall hl (fun x => stT ts (enc x) n h) m (fun x => ((out x).1, stT ts (out x).2 n h)) fun x => ?_
  obtain ⟨y, vs, h1, h2⟩ := step x
  obtain ⟨σ1, g1, g2, g3, g4, g5⟩ := bodyRunK_some hK hL h1
  have cv : Covers gl hE (stT ts vs n h) σ1 := covers_T g4 (picks_mkT g2) g3.symm g5.symm
  refine ⟨y, σ1, g1, ?_⟩
  rcases h2 with ⟨rfl, x', rfl, k1, k2⟩ | ⟨k1, k2⟩
  · exact .inl ⟨rfl, x', k1, by rw [k2], cv⟩
  · exact .inr ⟨k1, by rw [k2], by rw [k2]; exact cv⟩

end Go.Proofs.YtachednafdmmaaaDoor.AI
namespace Go.Proofs.YtachednafdmmaaaDoor.AI
open Go Go.RowKit
set_option linter.unusedVariables false
set_option linter.unusedSimpArgs false

variable {P : Program}

end Go.Proofs.YtachednafdmmaaaDoor.AI
