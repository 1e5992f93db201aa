/- The abstract interpreter: from a run of it to a call in the model. -/
import Derived.Test.YtachednafdmmaaaDoorAIv
namespace Go.Proofs.YtachednafdmmaaaDoor.AI
open Go Go.RowKit
set_option linter.unusedVariables false
set_option linter.unusedSimpArgs false

variable {P : Program} {gl : Nat → Option Nat} {μ : Mu} {n : Nat} {w : World} {reg : CallA → Array Oper → St → Option St}

def gl0 : Nat → Option Nat := fun _ => none
def h0 : AH := ⟨.nil, 0⟩

/-- All that a world holds. -/
def frW (w : World) : Nat → Option (Array Value) := fun B => match w.heap[B]? with
  | some (.cells C _ _) => some C
  | _ => none
theorem frW_some {w : World} {B : Nat} {C : Array Value} : frW w B = some C ↔ ∃ e fz, w.heap[B]? = some (.cells C e fz) := by
  unfold frW
  constructor
  · intro h
    split at h
    · rename_i C' e fz hw; cases h; exact ⟨e, fz, hw⟩
    · cases h
  · rintro ⟨e, fz, h⟩
    rw [h]
/-- Where a function begins with no blocks of its own: nothing that is there is written. -/
def mu0 (w : World) : Mu := ⟨fun _ => ⟨0, 0, 0⟩, frW w⟩

theorem HRel.none (w : World) : HRel gl0 (mu0 w) h0 w :=
  ⟨⟨fun i b h => (by simp [h0, AH.get, Tr.get_nil] at h), fun i b h => (by simp [h0, AH.get, Tr.get_nil] at h), fun i j bi bj h => (by simp [h0, AH.get, Tr.get_nil] at h), fun g i h => (by cases h)⟩,
    fun B C hB => ⟨frW_some.1 hB, fun ⟨i, b, h, _⟩ => (by simp [h0, AH.get, Tr.get_nil] at h)⟩⟩

/-- Where nothing that was there may be written, all is as it was. -/
theorem Fr.below {h h' : AH} {w' : World} {μ' : Mu} (f : Fr μ h w μ' h' w') (hro : ∀ (i : Nat) (b : Blk), h.get i = some b → b.ro = true) : Below w.heap.size w w' :=
  ⟨f.os, f.tape, f.output, f.size, fun k hk => f.keep k hk fun ⟨i, b, h1, h2, _⟩ => by rw [hro i b h1] at h2; cases h2⟩

/-- A call with values that hold no address. -/
theorem closed_calls (hreg : RegOK P gl0 reg) {k : Nat} {f : FuncId} {args : List Value} {v : Value} {h' : AH} (h : callA P gl0 reg k false f args h0 = some (v, h')) (hp : args.all plain1 = true) (w : World) :
    Calls P f ⟨args⟩ w fun e w' => ∃ c μ', e = .returned c ∧ VRel μ' h'.next v c ∧ Below w.heap.size w w' := by
  refine ((callA_ok hreg k).1 f args h0 v h' h |>.2 (mu0 w) w ⟨args⟩ (.none w) (plain_list hp)).mono ?_
  rintro e w' ⟨c, μ', rfl, g1, g2, g3⟩
  exact ⟨c, μ', rfl, g3, g2.below fun i b h => (by simp [h0, AH.get, Tr.get_nil] at h)⟩

def okA : Option (Value × AH) → Bool
  | some (.bool true, _) => true
  | _ => false

theorem okA_some {r : Option (Value × AH)} (h : okA r = true) : ∃ h', r = some (.bool true, h') := by
  unfold okA at h
  split at h
  · exact ⟨_, rfl⟩
  · cases h

/-- A law that holds of such values, by a run of the interpreter. -/
theorem closed_law (hreg : RegOK P gl0 reg) {k : Nat} {f : FuncId} {args : List Value} (h : okA (callA P gl0 reg k false f args h0) = true) (hp : args.all plain1 = true) (w : World) :
    Calls P f ⟨args⟩ w fun e w' => e = .returned (.bool true) ∧ Below w.heap.size w w' := by
  obtain ⟨h', hr⟩ := okA_some h
  refine (closed_calls hreg hr hp w).mono ?_
  rintro e w' ⟨c, μ', rfl, hv, hb⟩
  exact ⟨by rw [hv.bool], hb⟩

/-- Regions whose order is drawn are not run. -/
def noReg : CallA → Array Oper → St → Option St := fun _ _ _ => none
theorem noReg_ok : RegOK P gl noReg := fun _ _ _ _ _ _ h => by cases h

end Go.Proofs.YtachednafdmmaaaDoor.AI
