/- CheckKnown: what is run. -/
import Derived.Test.YtgfjnnkhlgmbcaaSXb
import Derived.KernelRfl
namespace Go.Proofs.Ytgfjnnkhlgmbcaa.AI
open Go Go.RowKit 
set_option linter.unusedVariables false
set_option linter.unusedSimpArgs false
theorem tab0_is : TabIs Try.prog gl0 findB tab0 := hpTab_is (mkTab_is _) findF_sim
theorem tab0_no : ∀ g fn, tab0.get g = some fn → compFn Try.prog gl0 g = some fn → ∀ args h, findB g args h = none := by
  intro g fn h1 h2 args h
  by_cases hg : g = 84
  · subst hg
    unfold tab0 at h1
    rw [Tr.get_set, if_pos rfl] at h1
    cases h1
    obtain ⟨_, _, _, _, _, _, _, _, _, e⟩ := compFn_mk h2
    cases e
  · exact findB_no hg args h
set_option maxRecDepth 100000 in
theorem known_run : okO (callF tab0 200 false 3 [] ⟨eH, 0⟩ fun v _ => some v) = true := by kernel_rfl
theorem known_walk (w : World) : Calls Try.prog 3 #[] w fun e w' => e = .returned (.bool true) ∧ Below w.heap.size w w' :=
  fast_callsT hmix findB_ok tab0_is tab0_no (okO_some known_run) rfl rfl w
end Go.Proofs.Ytgfjnnkhlgmbcaa.AI
