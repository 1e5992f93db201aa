/- The abstract interpreter: loops that are unrolled; arguments that are slices. -/
import Derived.Test.YtachednafdmmaaaDoorAIlg
namespace Go.Proofs.YtachednafdmmaaaDoor.AI
open Go Go.RowKit
set_option linter.unusedVariables false
set_option linter.unusedSimpArgs false

variable {P : Program} {gl : Nat → Option Nat} {reg : CallA → Array Oper → St → Option St} {call : CallA}

/-- A loop is gone through, so many rounds at most; the loops in it as told. -/
def loIt (P : Program) (gl : Nat → Option Nat) (call : CallA) (LO : LoopA) (fuel : Nat) : LoopA := fun c σ => iterA (fun σ => codeB P gl (regF P gl) call LO c σ) fuel σ
def lkIt {R : Type} (P : Program) (gl : Nat → Option Nat) (call : CallA) (callK : CK R) (LK : LoopK R) (fuel : Nat) : LoopK R := fun c σ k => iterK (fun σ k => codeG P gl call callK LK c σ k) fuel σ k
theorem lkIt_ok {R : Type} {callK : CK R} (hc : CKok call callK) {LO : LoopA} {LK : LoopK R} (hL : LKok LO LK) (fuel : Nat) : LKok (loIt P gl call LO fuel) (lkIt P gl call callK LK fuel) := fun c σ k => iterK_eq (fun σ k => codeG_eq hc hL c σ k) fuel σ k

theorem loIt_ok (hm : P.follows .mixedOrders = true) (hcall : CallOK P gl call) {hE : AH} {LO : LoopA} {l : List Code} (hl : ∀ c ∈ l, LoopsOK P gl hE LO (loopsOf c)) (fuel : Nat) : LoopsOK P gl hE (loIt P gl call LO fuel) l := by
  intro c hc σ x σ' hr μE wE μ a w hE0 hs hf
  refine wp_loop_rounds fuel ?_
  have key : ∀ (k : Nat) (σ : St) (μ : Mu) (a : Act) (w : World), iterA (fun σ => codeB P gl (regF P gl) call LO c σ) k σ = some (x, σ') → SRel gl μ σ a w → Fr μE hE wE μ σ.h w → Code.rounds P c (PostE gl μE hE wE x σ') k a w := by
    intro k
    induction k with
    | zero => intro σ μ a w hk; cases hk
    | succ k ihk =>
      intro σ μ a w hk h f
      rw [rounds_succ]
      simp only [iterA] at hk
      split at hk
      · rename_i σ1 h1
        refine wp_mono (codeB_ok (regF_ok hm) hcall c (hl c hc) σ .normal σ1 h1 μE wE μ a w hE0 h f) ?_
        rintro e a1 w1 ⟨rfl, μ1, hs1, hf1⟩
        exact ihk σ1 μ1 a1 w1 hk hs1 hf1
      · rename_i hne
        refine wp_mono (codeB_ok (regF_ok hm) hcall c (hl c hc) σ x σ' hk μE wE μ a w hE0 h f) ?_
        rintro e a1 w1 ⟨rfl, μ1, hs1, hf1⟩
        cases x with
        | normal => exact absurd hk (hne σ')
        | exit id' => exact ⟨rfl, μ1, hs1, hf1⟩
        | ret => exact ⟨rfl, μ1, hs1, hf1⟩
  exact key fuel σ μ a w hr hs hf

/-- Calls by a table, or, where it says nothing, gone into. -/
def isIn (ins : List Nat) (g : FuncId) : Bool := ins.any (Nat.beq g)
def mixA (ins : List Nat) (c1 c2 : CallA) : CallA := fun g ar h => bif isIn ins g then c1 g ar h else c2 g ar h
def mixK {R : Type} (ins : List Nat) (c1 c2 : CK R) : CK R := fun g ar h k => bif isIn ins g then c1 g ar h k else c2 g ar h k
theorem mixK_ok {R : Type} {ins : List Nat} {c1 c2 : CallA} {k1 k2 : CK R} (h1 : CKok c1 k1) (h2 : CKok c2 k2) : CKok (mixA ins c1 c2) (mixK ins k1 k2) := by
  intro g ar h k
  unfold mixA mixK
  cases isIn ins g
  · exact h2 g ar h k
  · exact h1 g ar h k
theorem mixA_ok {ins : List Nat} {c1 c2 : CallA} (h1 : CallOK P gl c1) (h2 : CallOK P gl c2) : CallOK P gl (mixA ins c1 c2) := by
  intro g ar h v h' hc
  unfold mixA at hc
  cases hi : isIn ins g with
  | true => rw [hi] at hc; exact h1 g ar h v h' hc
  | false => rw [hi] at hc; exact h2 g ar h v h' hc

def idk (k : Nat) (ids : List Nat) (i : Nat) : Nat := if i < k then i else idx ids (i - k)
def idd (k : Nat) (dl : List Nat) (i : Nat) : Nat := if i < k then 0 else idx dl (i - k)

theorem finHG_some {callK : CK (XA × List Value × List Blk × Nat)} (hK : CKok call callK) {LO : LoopA} {LK : LoopK (XA × List Value × List Blk × Nat)} (hL : LKok LO LK) {c : Code} {σ : St} {ts ids : List Nat} {y : XA} {vs : List Value} {bs : List Blk} {n : Nat}
    (hr : codeG P gl call callK LK c σ (finH ts ids) = some (y, vs, bs, n)) :
    ∃ σ1, codeB P gl (regF P gl) call LO c σ = some (y, σ1) ∧ picks ts σ1.T = some vs ∧ picksH ids σ1.h = some bs ∧ σ1.n = n ∧ σ1.ds = [] := by
  rw [codeG_eq hK hL] at hr
  split at hr
  · rename_i x σ1 hc
    unfold finH at hr
    split at hr
    · rename_i hd
      split at hr
      · rename_i ws hw
        split at hr
        · rename_i cs hcs
          cases hr
          exact ⟨σ1, hc, hw, hcs, rfl, hd⟩
        · cases hr
      · cases hr
    · cases hr
  · cases hr


end Go.Proofs.YtachednafdmmaaaDoor.AI
