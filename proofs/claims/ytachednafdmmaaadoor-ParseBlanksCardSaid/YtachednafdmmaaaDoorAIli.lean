/- The abstract interpreter: arguments of laws that are rows of plain things. -/
import Derived.Test.YtachednafdmmaaaDoorAIlh
import Derived.Deep.Slices
import Derived.ChangeShapes
import Derived.ChangeArms
import Derived.Carry
namespace Go.Proofs.YtachednafdmmaaaDoor.AI
open Go Go.RowKit Go.Deep
set_option linter.unusedVariables false
set_option linter.unusedSimpArgs false

/-- What a cell of plain data may be. -/
inductive Ckd where
  | int (k : IntKind)
  | bool
  | str
def ckOk : Ckd → Value → Prop
  | .int k, v => ∃ n, v = .int k n ∧ (Lit.int k n).wf = true
  | .bool, v => ∃ b, v = .bool b
  | .str, v => ∃ s, v = .string s ∧ s.size ≤ maxLen
theorem ckOk.plain {k : Ckd} {v : Value} (h : ckOk k v) : plain1 v = true := by
  cases k with
  | int k => obtain ⟨n, rfl, _⟩ := h; rfl
  | bool => obtain ⟨n, rfl⟩ := h; rfl
  | str => obtain ⟨n, rfl, _⟩ := h; rfl
inductive Cks : List Ckd → List Value → Prop where
  | nil : Cks [] []
  | cons {k : Ckd} {ks : List Ckd} {v : Value} {vs : List Value} : ckOk k v → Cks ks vs → Cks (k :: ks) (v :: vs)
theorem Cks.len {ks : List Ckd} {vs : List Value} (h : Cks ks vs) : vs.length = ks.length := by
  induction h with
  | nil => rfl
  | cons _ _ ih => simp [ih]
theorem Cks.append {a b : List Ckd} {x y : List Value} (h : Cks a x) (g : Cks b y) : Cks (a ++ b) (x ++ y) := by
  induction h with
  | nil => exact g
  | cons h1 _ ih => exact .cons h1 ih
theorem Cks.plain {ks : List Ckd} {vs : List Value} (h : Cks ks vs) : ∀ v ∈ vs, plain1 v = true := by
  induction h with
  | nil => intro v hv; cases hv
  | cons h1 _ ih =>
    intro v hv
    rcases List.mem_cons.1 hv with rfl | hv
    · exact h1.plain
    · exact ih v hv

variable {H : Type} {enc : TypeId × Value → H} {P : Program} {w : World} {base : Nat} {spare : Nat → Bool} {held : Bool}

/-- A row of so many things, each of such cells. -/
def RowOk (ks : List Ckd) : Nat → List Value → Prop
  | 0, cs => cs = []
  | l + 1, cs => ∃ a r, cs = a ++ r ∧ Cks ks a ∧ RowOk ks l r
theorem RowOk.plain {ks : List Ckd} : ∀ {l : Nat} {cs : List Value}, RowOk ks l cs → ∀ v ∈ cs, plain1 v = true := by
  intro l
  induction l with
  | zero => intro cs h v hv; cases h; cases hv
  | succ l ih =>
    rintro cs ⟨a, r, rfl, ha, hr⟩ v hv
    rcases List.mem_append.1 hv with hv | hv
    · exact ha.plain v hv
    · exact ih hr v hv
theorem RowOk.len {ks : List Ckd} : ∀ {l : Nat} {cs : List Value}, RowOk ks l cs → cs.length = l * ks.length := by
  intro l
  induction l with
  | zero => intro cs h; cases h; simp
  | succ l ih =>
    rintro cs ⟨a, r, rfl, ha, hr⟩
    rw [List.length_append, ih hr, ha.len, Nat.succ_mul, Nat.add_comm]

end Go.Proofs.YtachednafdmmaaaDoor.AI
