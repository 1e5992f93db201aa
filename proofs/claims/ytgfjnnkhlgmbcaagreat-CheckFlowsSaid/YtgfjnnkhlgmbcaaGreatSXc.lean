/- CheckFlows: what is run. -/
import Derived.Test.YtgfjnnkhlgmbcaaGreatSXb
import Derived.KernelRfl
namespace Go.Proofs.YtgfjnnkhlgmbcaaGreat.AI
open Go Go.RowKit 
set_option linter.unusedVariables false
set_option linter.unusedSimpArgs false
theorem tab0_is : TabIs Tryz.prog gl0 findB tab0 := hpTab_is (mkTab_is _) findF_sim
theorem tab0_no : ∀ g fn, tab0.get g = some fn → compFn Tryz.prog gl0 g = some fn → ∀ args h, findB g args h = none := by
  intro g fn h1 h2 args h
  by_cases hg : g = 113
  · subst hg
    unfold tab0 at h1
    rw [Tr.get_set, if_pos rfl] at h1
    cases h1
    obtain ⟨_, _, _, _, _, _, _, _, _, e⟩ := compFn_mk h2
    cases e
  · exact findB_no hg args h
set_option maxRecDepth 100000 in
theorem awake_run : callF tab0 200 false 7 [] ⟨eH, 0⟩ (fun v _ => some v) = some (.bool true) := by kernel_rfl
def awakeE (ar : List Value) : Option Value := match ar with
  | [] => some (.bool true)
  | _ => none
def Fk : FuncId → List Value → Option Value := andF 7 awakeE noF
theorem Fk_ok : TabOK Tryz.prog Fk := by
  refine andF_ok Tryz.func7 rfl (by kernel_rfl) (fun ar v h => ?_) noF_ok
  unfold awakeE at h
  split at h
  · cases h
    exact ⟨rfl, rfl, fun w => fast_callsT hmix findB_ok tab0_is tab0_no awake_run rfl rfl w⟩
  · cases h
theorem Fk_no {g : Nat} (hg : g ≠ 7) (args : List Value) : Fk g args = none := by
  unfold Fk andF
  cases h : Nat.beq g 7 with
  | true => exact absurd (Nat.eq_of_beq_eq_true h) hg
  | false => rfl
def T2 : CallA := orA (sumA Fk) findB
theorem T2_ok {gl : Nat → Option Nat} : CallOK Tryz.prog gl T2 := orA_ok (tab_ok Fk_ok) findB_ok
theorem T2_F : ∀ g args h v, Fk g args = some v → T2 g args h = some (v, h) := by
  intro g args h v hv
  unfold T2 orA sumA
  rw [hv]
theorem T2_B {g : Nat} (hg : g ≠ 7) (args : List Value) (h : AH) : T2 g args h = findB g args h := by
  unfold T2 orA sumA
  rw [Fk_no hg]
noncomputable def tabK : Tr FFn := natTab Fk [7] tab0
theorem tabK_is : TabIs Tryz.prog gl0 T2 tabK := by
  refine natTab_is T2_F (hpTab_is (mkTab_is _) ?_) _
  have e : T2 113 = findB 113 := by funext args h; exact T2_B (by decide) args h
  rw [e]
  exact findF_sim
theorem tabK_no : ∀ g fn, tabK.get g = some fn → compFn Tryz.prog gl0 g = some fn → ∀ args h, T2 g args h = none := by
  intro g fn h1 h2 args h
  by_cases hg : g = 7
  · subst hg
    have h1 : (tab0.set 7 (some (.nat (Fk 7)))).get 7 = some fn := h1
    rw [Tr.get_set, if_pos rfl] at h1
    cases h1
    obtain ⟨_, _, _, _, _, _, _, _, _, e⟩ := compFn_mk h2
    cases e
  · have h1 : (tab0.set 7 (some (.nat (Fk 7)))).get g = some fn := h1
    rw [Tr.get_set, if_neg hg] at h1
    rw [T2_B hg]
    exact tab0_no g fn h1 h2 args h
/-- The law's answer, by a fast run. -/
noncomputable def fl (a : Int) : Bool := okO (callF tabK 200 false 6 [.int .i64 a] ⟨eH, 0⟩ fun v _ => some v)
set_option maxRecDepth 100000
theorem fl_neg (m : Nat) : fl (.negSucc m) = true := by kernel_rfl
theorem fl_out (m : Nat) : fl (.ofNat (m + 16)) = true := by kernel_rfl
end Go.Proofs.YtgfjnnkhlgmbcaaGreat.AI
