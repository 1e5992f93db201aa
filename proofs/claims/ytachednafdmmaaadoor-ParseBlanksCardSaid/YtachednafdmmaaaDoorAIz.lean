/- The abstract interpreter: from a run of it to a call in the model. -/
import Derived.Test.YtachednafdmmaaaDoorAIv
namespace Go.Proofs.YtachednafdmmaaaDoor.AI
open Go Go.RowKit
set_option linter.unusedVariables false
set_option linter.unusedSimpArgs false

variable {P : Program} {gl : Nat → Option Nat} {μ : Mu} {n : Nat} {w : World} {reg : CallA → Array Oper → St → Option St}

def gl0 : Nat → Option Nat := fun _ => none
def h0 : AH := ⟨.nil, 0⟩

/-- All that a world holds. -/
def frW (w : World) : Nat → Option (Array Value) := fun B => match w.heap[B]? with
  | some (.cells C _ _) => some C
  | _ => none
theorem frW_some {w : World} {B : Nat} {C : Array Value} : frW w B = some C ↔ ∃ e fz, w.heap[B]? = some (.cells C e fz) := by
  unfold frW
  constructor
  · intro h
    split at h
    · rename_i C' e fz hw; cases h; exact ⟨e, fz, hw⟩
    · cases h
  · rintro ⟨e, fz, h⟩
    rw [h]
/-- Where a function begins with no blocks of its own: nothing that is there is written. -/
def mu0 (w : World) : Mu := ⟨fun _ => ⟨0, 0, 0⟩, frW w⟩

theorem HRel.none (w : World) : HRel gl0 (mu0 w) h0 w :=
  ⟨⟨fun i b h => (by simp [h0, AH.get, Tr.get_nil] at h), fun i b h => (by simp [h0, AH.get, Tr.get_nil] at h), fun i j bi bj h => (by simp [h0, AH.get, Tr.get_nil] at h), fun g i h => (by cases h)⟩,
    fun B C hB => ⟨frW_some.1 hB, fun ⟨i, b, h, _⟩ => (by simp [h0, AH.get, Tr.get_nil] at h)⟩⟩

/-- Where nothing that was there may be written, all is as it was. -/
theorem Fr.below {h h' : AH} {w' : World} {μ' : Mu} (f : Fr μ h w μ' h' w') (hro : ∀ (i : Nat) (b : Blk), h.get i = some b → b.ro = true) : Below w.heap.size w w' :=
  ⟨f.os, f.tape, f.output, f.size, fun k hk => f.keep k hk fun ⟨i, b, h1, h2, _⟩ => by rw [hro i b h1] at h2; cases h2⟩

end Go.Proofs.YtachednafdmmaaaDoor.AI
