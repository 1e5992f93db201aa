/- The abstract interpreter: what is known of functions whose arguments and answers are plain. -/
import Derived.Test.YtachednafdmmaaaDoorAIw
import Derived.Test.YtachednafdmmaaaDoorAIz
namespace Go.Proofs.YtachednafdmmaaaDoor.AI
open Go Go.RowKit
set_option linter.unusedVariables false
set_option linter.unusedSimpArgs false

variable {P : Program} {gl : Nat → Option Nat}

theorem HRel.below {μ : Mu} {h : AH} {w w' : World} (a : HRel gl μ h w) (b : Below w.heap.size w w') : HRel gl μ h w' ∧ Fr μ h w μ h w' := by
  obtain ⟨b1, b2, b3, b4, b5⟩ := b
  exact a.step ⟨a.lt, fun i x hx => (a.blk i x hx).same (Ext.rf _ _) (Nat.le_refl _) (b5 _ (a.blk i x hx).lt), a.sep, a.glob⟩ ⟨b1, b2, b3, b4, Nat.le_refl _, .refl _ _, fun B hB _ => b5 B hB, fun B hB => .inl hB, fun _ _ h _ => h, fun _ _ h _ => h⟩ (fun _ _ h => h)

theorem VRel.plain_eq {μ : Mu} {n : Nat} {v c : Value} (h : VRel μ n v c) (hp : plain1 v = true) : c = v := by
  cases h with
  | plain v hv => rfl
  | gsl => exact absurd hp (by simp [gslV, plain1])
  | gptr => exact absurd hp (by simp [gptrV, plain1])
  | _ => first | (simp [plain1] at hp; done) | rfl

theorem LRel.plain_eq {μ : Mu} {n : Nat} : ∀ {l : List Value} {cs : List Value}, LRel μ n l cs → l.all plain1 = true → cs = l := by
  intro l cs h hp
  refine List.ext_getElem? fun i => ?_
  cases hl : l[i]? with
  | none =>
    rw [List.getElem?_eq_none_iff] at hl ⊢
    have := h.1
    omega
  | some v =>
    obtain ⟨c, h1, h2⟩ := h.get hl
    rw [h1, h2.plain_eq (List.all_eq_true.1 hp v (List.mem_of_getElem? hl))]

/-- A call of which the next is asked behind it. -/
def toK {R : Type} (call : CallA) : CK R := fun g ar h k => match call g ar h with
  | some (v, h') => k v h'
  | none => none
theorem toK_ok {R : Type} (call : CallA) : CKok (R := R) call (toK call) := fun g ar h k => rfl

def bodyOf (f : Func) : Code := match f.body with
  | some c => c
  | none => .skip

theorem VRel.plainV_eq {μ : Mu} {n : Nat} {v c : Value} (h : VRel μ n v c) (hp : AI.plainV v = true) : c = v := by
  have arr : ∀ (xs ys : Array Value), LRel μ n xs.toList ys.toList → xs.toList.all plain1 = true → ys = xs := fun xs ys hl ha => Array.ext' (hl.plain_eq ha)
  cases h with
  | plain v hv => rfl
  | agg c c' l hh => rw [arr c c' ⟨l, hh⟩ hp]
  | tuple c c' l hh => rw [arr c c' ⟨l, hh⟩ hp]
  | iface t v v' _ hv => rw [hv.plain_eq (Bool.and_eq_true_iff.1 hp).2]
  | gsl => exact absurd hp (by simp [gslV, AI.plainV, gT])
  | gptr => exact absurd hp (by simp [gptrV, AI.plainV, gT])
  | _ => simp [AI.plainV, plain1] at hp

theorem LRel.plainV_eq {μ : Mu} {n : Nat} : ∀ {l : List Value} {cs : List Value}, LRel μ n l cs → l.all AI.plainV = true → cs = l := by
  intro l cs h hp
  refine List.ext_getElem? fun i => ?_
  cases hl : l[i]? with
  | none =>
    rw [List.getElem?_eq_none_iff] at hl ⊢
    have := h.1
    omega
  | some v =>
    obtain ⟨c, h1, h2⟩ := h.get hl
    rw [h1, h2.plainV_eq (List.all_eq_true.1 hp v (List.mem_of_getElem? hl))]

end Go.Proofs.YtachednafdmmaaaDoor.AI
