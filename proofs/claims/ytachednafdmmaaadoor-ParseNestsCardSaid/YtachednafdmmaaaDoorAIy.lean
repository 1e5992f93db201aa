/- The abstract interpreter: package-level tables of integers. -/
import Derived.Test.YtachednafdmmaaaDoorAIz
import Derived.Lib.LaidTab
namespace Go.Proofs.YtachednafdmmaaaDoor.AI
open Go Go.RowKit
set_option linter.unusedVariables false
set_option linter.unusedSimpArgs false

variable {P : Program} {w : World}

/-- A table: its variable, its kind, its numbers. -/
abbrev Tabs := List (Nat × IntKind × List Int)

def tabVs (x : Nat × IntKind × List Int) : List Value := x.2.2.map fun z => .int x.2.1 z
def glF : Nat → Tabs → Nat → Option Nat
  | _, [], _ => none
  | i, x :: r, g => bif Nat.beq x.1 g then some i else glF (i + 1) r g
def glT (l : Tabs) : Nat → Option Nat := glF 0 l
def hF : Nat → Tabs → Tr Blk → Tr Blk
  | _, [], t => t
  | i, x :: r, t => hF (i + 1) r (t.set i (some (.row true 7777 (tabVs x))))
def hT (l : Tabs) : AH := ⟨hF 0 l .nil, l.length⟩
def muT (l : Tabs) (w : World) : Mu := ⟨fun i => match l[i]? with
  | some x => ⟨x.1, 0, 0⟩
  | none => ⟨0, 0, 0⟩, frW w⟩

/-- The world holds the table. -/
def Holds (w : World) (x : Nat × IntKind × List Int) : Prop := ∃ C e fz, w.heap[x.1]? = some (.cells C e fz) ∧ C.size = x.2.2.length ∧ ∀ (j : Nat) (v : Value), (tabVs x)[j]? = some v → C[j]? = some v

theorem holds_of_tab {name : String} {k : IntKind} {zs : List Int} {g : Nat} (h : Lib.TabIs P w name k zs) (hg : P.globalNamed name = some g) (hz : zs ≠ []) : Holds w (g, k, zs) := by
  have h0 := World.var?_cell hg h
  have h00 := h0 0
  obtain ⟨z, zs', rfl⟩ := List.exists_cons_of_ne_nil hz
  simp only [World.cell?] at h0 h00
  cases hh : w.heap[g]? with
  | none => simp [hh] at h00
  | some b =>
    cases b with
    | cells C e fz =>
      simp only [hh, Option.isSome_none, Bool.false_eq_true, if_false] at h0
      refine ⟨C, e, fz, hh, ?_, ?_⟩
      · rcases Nat.lt_or_ge C.size (z :: zs').length with hl | hl
        · have := h0 C.size
          rw [Array.getElem?_eq_none (Nat.le_refl _)] at this
          have h2 := this.symm
          rw [List.getElem?_toArray, List.getElem?_map, Option.map_eq_none_iff, List.getElem?_eq_none_iff] at h2
          exact absurd hl (by omega)
        · rcases Nat.lt_or_ge (z :: zs').length C.size with hl2 | hl2
          · have := h0 (z :: zs').length
            rw [show ((z :: zs').map fun z => Value.int k z).toArray[(z :: zs').length]? = none by simp, Array.getElem?_eq_none_iff] at this
            exact absurd hl2 (by omega)
          · exact Nat.le_antisymm hl2 hl
      · intro j v hv
        rw [h0 j, List.getElem?_toArray]
        exact hv
    | _ => simp [hh] at h00

theorem hF_get : ∀ (l : Tabs) (i : Nat) (t : Tr Blk) (j : Nat), (hF i l t).get j = if i ≤ j then (match l[j - i]? with | some x => some (.row true 7777 (tabVs x)) | none => t.get j) else t.get j := by
  intro l
  induction l with
  | nil => intro i t j; simp [hF]
  | cons x l ih =>
    intro i t j
    rw [hF, ih]
    by_cases h : i + 1 ≤ j
    · have h2 : i ≤ j := by omega
      have h3 : j - i = (j - (i + 1)) + 1 := by omega
      rw [if_pos h, if_pos h2, h3, List.getElem?_cons_succ]
      cases l[j - (i + 1)]? with
      | some y => rfl
      | none => exact Tr.get_set_ne _ _ (by omega)
    · rw [if_neg h]
      by_cases h2 : i = j
      · subst h2
        simp [Tr.get_set_same]
      · rw [if_neg (by omega), Tr.get_set_ne _ _ (by omega)]

theorem hT_get {l : Tabs} {i : Nat} {b : Blk} (h : (hT l).get i = some b) : ∃ x, l[i]? = some x ∧ b = .row true 7777 (tabVs x) := by
  simp only [hT, AH.get, hF_get, Nat.zero_le, if_true, Nat.sub_zero] at h
  split at h
  · rename_i x hx; exact ⟨x, hx, (Option.some.inj h).symm⟩
  · simp [Tr.get_nil] at h

theorem glF_some : ∀ {l : Tabs} {i g j : Nat}, glF i l g = some j → i ≤ j ∧ ∃ x, l[j - i]? = some x ∧ x.1 = g := by
  intro l
  induction l with
  | nil => intro i g j h; cases h
  | cons x l ih =>
    intro i g j h
    unfold glF at h
    cases hb : Nat.beq x.1 g with
    | true =>
      rw [hb] at h
      obtain rfl := Option.some.inj h
      exact ⟨Nat.le_refl _, x, by simp, Nat.eq_of_beq_eq_true hb⟩
    | false =>
      rw [hb] at h
      obtain ⟨h1, y, h2, h3⟩ := ih h
      refine ⟨by omega, y, ?_, h3⟩
      rw [show j - i = (j - (i + 1)) + 1 by omega, List.getElem?_cons_succ]
      exact h2

theorem HRel.tabs {l : Tabs} (hw : ∀ x ∈ l, Holds w x) : HRel (glT l) (muT l w) (hT l) w := by
  refine ⟨⟨?_, ?_, ?_, ?_⟩, fun B C hB => ⟨frW_some.1 hB, fun ⟨i, b, h, hr, _⟩ => by obtain ⟨x, _, rfl⟩ := hT_get h; cases hr⟩⟩
  · intro i b h
    obtain ⟨x, hx, _⟩ := hT_get h
    exact (List.getElem?_eq_some_iff.1 hx).1
  · intro i b h
    obtain ⟨x, hx, rfl⟩ := hT_get h
    obtain ⟨C, e, fz, h1, h2, h3⟩ := hw x (List.mem_of_getElem? hx)
    have hm : (muT l w).loc i = ⟨x.1, 0, 0⟩ := by simp only [muT, hx]
    rw [hm]
    refine ⟨C, e, fz, h1, ?_, ?_, fun h => (by cases h), fun _ _ => ?_⟩
    · simp [tabVs]; omega
    · intro j v hv
      refine ⟨v, by simpa using h3 j v hv, ?_⟩
      simp only [tabVs, List.getElem?_map, Option.map_eq_some_iff] at hv
      obtain ⟨z, _, rfl⟩ := hv
      exact .plain _ rfl
    · show C.size = 0 + (tabVs x).length
      simp [tabVs]; omega
  · intro i j bi bj h _ _ hr
    obtain ⟨x, _, rfl⟩ := hT_get h
    cases hr
  · intro g i h
    obtain ⟨_, x, hx, hg⟩ := glF_some h
    rw [Nat.sub_zero] at hx
    have hm : (muT l w).loc i = ⟨x.1, 0, 0⟩ := by simp only [muT, hx]
    exact ⟨(List.getElem?_eq_some_iff.1 hx).1, by rw [hm]; exact hg, by rw [hm]⟩

/-- A call with values that hold no address, in a world that holds the tables. -/
theorem tab_calls {l : Tabs} {reg : CallA → Array Oper → St → Option St} (hreg : RegOK P (glT l) reg) {k : Nat} {f : FuncId} {args : List Value} {v : Value} {h' : AH} (h : callA P (glT l) reg k false f args (hT l) = some (v, h')) (hp : args.all plain1 = true) (w : World) (hw : ∀ x ∈ l, Holds w x) :
    Calls P f ⟨args⟩ w fun e w' => ∃ c μ', e = .returned c ∧ VRel μ' h'.next v c ∧ Below w.heap.size w w' := by
  refine ((callA_ok hreg k).1 f args (hT l) v h' h |>.2 (muT l w) w ⟨args⟩ (.tabs hw) (plain_list hp)).mono ?_
  rintro e w' ⟨c, μ', rfl, g1, g2, g3⟩
  refine ⟨c, μ', rfl, g3, g2.below fun i b hb => ?_⟩
  obtain ⟨x, _, rfl⟩ := hT_get hb
  rfl

/-- A law that holds of such values, by a run of the interpreter. -/
theorem tab_law {l : Tabs} {reg : CallA → Array Oper → St → Option St} (hreg : RegOK P (glT l) reg) {k : Nat} {f : FuncId} {args : List Value} (h : okA (callA P (glT l) reg k false f args (hT l)) = true) (hp : args.all plain1 = true) (w : World) (hw : ∀ x ∈ l, Holds w x) :
    Calls P f ⟨args⟩ w fun e w' => e = .returned (.bool true) ∧ Below w.heap.size w w' := by
  obtain ⟨h', hr⟩ := okA_some h
  refine (tab_calls hreg hr hp w hw).mono ?_
  rintro e w' ⟨c, μ', rfl, hv, hb⟩
  exact ⟨by rw [hv.bool], hb⟩

end Go.Proofs.YtachednafdmmaaaDoor.AI
