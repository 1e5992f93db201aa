/- ParseNests: all runs. -/
import Derived.Test.YtachednafdmmaaaDoorPP4
import Derived.Test.YtachednafdmmaaaDoorPN0
import Derived.Test.YtachednafdmmaaaDoorPN1
import Derived.Test.YtachednafdmmaaaDoorPN2
import Derived.Test.YtachednafdmmaaaDoorPN3
import Derived.Stop.LaidErr
import Derived.KernelRfl
namespace Go.Proofs.YtachednafdmmaaaDoor.AI
open Go Go.RowKit
set_option linter.unusedVariables false
set_option maxRecDepth 100000
theorem runs_ok : RunsOK
  | 0, _, h => absurd h (by decide)
  | 1, _, _ => ⟨fun v hv => match v, hv with
    | 0, _ => qa1_0
    | 1, _ => qa1_1
    | 2, _ => qa1_2
    | 3, _ => qa1_3
    , qb1, qc1⟩
  | 2, _, _ => ⟨fun v hv => match v, hv with
    | 0, _ => qa2_0
    | 1, _ => qa2_1
    | 2, _ => qa2_2
    | 3, _ => qa2_3
    , qb2, qc2⟩
  | 3, _, _ => ⟨fun v hv => match v, hv with
    | 0, _ => qa3_0
    | 1, _ => qa3_1
    | 2, _ => qa3_2
    | 3, _ => qa3_3
    , qb3, qc3⟩
  | 4, _, _ => ⟨fun v hv => match v, hv with
    | 0, _ => qa4_0
    | 1, _ => qa4_1
    | 2, _ => qa4_2
    | 3, _ => qa4_3
    , qb4, qc4⟩
  | 5, _, _ => ⟨fun v hv => match v, hv with
    | 0, _ => qa5_0
    | 1, _ => qa5_1
    | 2, _ => qa5_2
    | 3, _ => qa5_3
    , qb5, qc5⟩
  | 6, _, _ => ⟨fun v hv => match v, hv with
    | 0, _ => qa6_0
    | 1, _ => qa6_1
    | 2, _ => qa6_2
    | 3, _ => qa6_3
    , qb6, qc6⟩
  | 7, _, _ => ⟨fun v hv => match v, hv with
    | 0, _ => qa7_0
    | 1, _ => qa7_1
    | 2, _ => qa7_2
    | 3, _ => qa7_3
    , qb7, qc7⟩
  | 8, _, _ => ⟨fun v hv => match v, hv with
    | 0, _ => qa8_0
    | 1, _ => qa8_1
    | 2, _ => qa8_2
    | 3, _ => qa8_3
    , qb8, qc8⟩
  | 9, _, _ => ⟨fun v hv => match v, hv with
    | 0, _ => qa9_0
    | 1, _ => qa9_1
    | 2, _ => qa9_2
    | 3, _ => qa9_3
    , qb9, qc9⟩
  | 10, _, _ => ⟨fun v hv => match v, hv with
    | 0, _ => qa10_0
    | 1, _ => qa10_1
    | 2, _ => qa10_2
    | 3, _ => qa10_3
    , qb10, qc10⟩
  | 11, _, _ => ⟨fun v hv => match v, hv with
    | 0, _ => qa11_0
    | 1, _ => qa11_1
    | 2, _ => qa11_2
    | 3, _ => qa11_3
    , qb11, qc11⟩
  | 12, _, _ => ⟨fun v hv => match v, hv with
    | 0, _ => qa12_0
    | 1, _ => qa12_1
    | 2, _ => qa12_2
    | 3, _ => qa12_3
    , qb12, qc12⟩
  | 13, _, _ => ⟨fun v hv => match v, hv with
    | 0, _ => qa13_0
    | 1, _ => qa13_1
    | 2, _ => qa13_2
    | 3, _ => qa13_3
    , qb13, qc13⟩
  | 14, _, _ => ⟨fun v hv => match v, hv with
    | 0, _ => qa14_0
    | 1, _ => qa14_1
    | 2, _ => qa14_2
    | 3, _ => qa14_3
    , qb14, qc14⟩
  | 15, _, _ => ⟨fun v hv => match v, hv with
    | 0, _ => qa15_0
    | 1, _ => qa15_1
    | 2, _ => qa15_2
    | 3, _ => qa15_3
    , qb15, qc15⟩
  | 16, _, _ => ⟨fun v hv => match v, hv with
    | 0, _ => qa16_0
    | 1, _ => qa16_1
    | 2, _ => qa16_2
    | 3, _ => qa16_3
    , qb16, qc16⟩
  | 17, _, _ => ⟨fun v hv => match v, hv with
    | 0, _ => qa17_0
    | 1, _ => qa17_1
    | 2, _ => qa17_2
    | 3, _ => qa17_3
    , qb17, qc17⟩
  | 18, _, _ => ⟨fun v hv => match v, hv with
    | 0, _ => qa18_0
    | 1, _ => qa18_1
    | 2, _ => qa18_2
    | 3, _ => qa18_3
    , qb18, qc18⟩
  | 19, _, _ => ⟨fun v hv => match v, hv with
    | 0, _ => qa19_0
    | 1, _ => qa19_1
    | 2, _ => qa19_2
    | 3, _ => qa19_3
    , qb19, qc19⟩
  | 20, _, _ => ⟨fun v hv => match v, hv with
    | 0, _ => qa20_0
    | 1, _ => qa20_1
    | 2, _ => qa20_2
    | 3, _ => qa20_3
    , qb20, qc20⟩
  | 21, _, _ => ⟨fun v hv => match v, hv with
    | 0, _ => qa21_0
    | 1, _ => qa21_1
    | 2, _ => qa21_2
    | 3, _ => qa21_3
    , qb21, qc21⟩
  | 22, _, _ => ⟨fun v hv => match v, hv with
    | 0, _ => qa22_0
    | 1, _ => qa22_1
    | 2, _ => qa22_2
    | 3, _ => qa22_3
    , qb22, qc22⟩
  | 23, _, _ => ⟨fun v hv => match v, hv with
    | 0, _ => qa23_0
    | 1, _ => qa23_1
    | 2, _ => qa23_2
    | 3, _ => qa23_3
    , qb23, qc23⟩
  | 24, _, _ => ⟨fun v hv => match v, hv with
    | 0, _ => qa24_0
    | 1, _ => qa24_1
    | 2, _ => qa24_2
    | 3, _ => qa24_3
    , qb24, qc24⟩
  | 25, _, _ => ⟨fun v hv => match v, hv with
    | 0, _ => qa25_0
    | 1, _ => qa25_1
    | 2, _ => qa25_2
    | 3, _ => qa25_3
    , qb25, qc25⟩
  | 26, _, _ => ⟨fun v hv => match v, hv with
    | 0, _ => qa26_0
    | 1, _ => qa26_1
    | 2, _ => qa26_2
    | 3, _ => qa26_3
    , qb26, qc26⟩
  | 27, _, _ => ⟨fun v hv => match v, hv with
    | 0, _ => qa27_0
    | 1, _ => qa27_1
    | 2, _ => qa27_2
    | 3, _ => qa27_3
    , qb27, qc27⟩
  | 28, _, _ => ⟨fun v hv => match v, hv with
    | 0, _ => qa28_0
    | 1, _ => qa28_1
    | 2, _ => qa28_2
    | 3, _ => qa28_3
    , qb28, qc28⟩
  | 29, _, _ => ⟨fun v hv => match v, hv with
    | 0, _ => qa29_0
    | 1, _ => qa29_1
    | 2, _ => qa29_2
    | 3, _ => qa29_3
    , qb29, qc29⟩
  | 30, _, _ => ⟨fun v hv => match v, hv with
    | 0, _ => qa30_0
    | 1, _ => qa30_1
    | 2, _ => qa30_2
    | 3, _ => qa30_3
    , qb30, qc30⟩
  | 31, _, _ => ⟨fun v hv => match v, hv with
    | 0, _ => qa31_0
    | 1, _ => qa31_1
    | 2, _ => qa31_2
    | 3, _ => qa31_3
    , qb31, qc31⟩
  | 32, _, _ => ⟨fun v hv => match v, hv with
    | 0, _ => qa32_0
    | 1, _ => qa32_1
    | 2, _ => qa32_2
    | 3, _ => qa32_3
    , qb32, qc32⟩
  | 33, _, _ => ⟨fun v hv => match v, hv with
    | 0, _ => qa33_0
    | 1, _ => qa33_1
    | 2, _ => qa33_2
    | 3, _ => qa33_3
    , qb33, qc33⟩
  | 34, _, _ => ⟨fun v hv => match v, hv with
    | 0, _ => qa34_0
    | 1, _ => qa34_1
    | 2, _ => qa34_2
    | 3, _ => qa34_3
    , qb34, qc34⟩
  | 35, _, _ => ⟨fun v hv => match v, hv with
    | 0, _ => qa35_0
    | 1, _ => qa35_1
    | 2, _ => qa35_2
    | 3, _ => qa35_3
    , qb35, qc35⟩
  | 36, _, _ => ⟨fun v hv => match v, hv with
    | 0, _ => qa36_0
    | 1, _ => qa36_1
    | 2, _ => qa36_2
    | 3, _ => qa36_3
    , qb36, qc36⟩
  | 37, _, _ => ⟨fun v hv => match v, hv with
    | 0, _ => qa37_0
    | 1, _ => qa37_1
    | 2, _ => qa37_2
    | 3, _ => qa37_3
    , qb37, qc37⟩
  | 38, _, _ => ⟨fun v hv => match v, hv with
    | 0, _ => qa38_0
    | 1, _ => qa38_1
    | 2, _ => qa38_2
    | 3, _ => qa38_3
    , qb38, qc38⟩
  | 39, _, _ => ⟨fun v hv => match v, hv with
    | 0, _ => qa39_0
    | 1, _ => qa39_1
    | 2, _ => qa39_2
    | 3, _ => qa39_3
    , qb39, qc39⟩
  | 40, _, _ => ⟨fun v hv => match v, hv with
    | 0, _ => qa40_0
    | 1, _ => qa40_1
    | 2, _ => qa40_2
    | 3, _ => qa40_3
    , qb40, qc40⟩
  | 41, _, _ => ⟨fun v hv => match v, hv with
    | 0, _ => qa41_0
    | 1, _ => qa41_1
    | 2, _ => qa41_2
    | 3, _ => qa41_3
    , qb41, qc41⟩
  | 42, _, _ => ⟨fun v hv => match v, hv with
    | 0, _ => qa42_0
    | 1, _ => qa42_1
    | 2, _ => qa42_2
    | 3, _ => qa42_3
    , qb42, qc42⟩
  | 43, _, _ => ⟨fun v hv => match v, hv with
    | 0, _ => qa43_0
    | 1, _ => qa43_1
    | 2, _ => qa43_2
    | 3, _ => qa43_3
    , qb43, qc43⟩
  | 44, _, _ => ⟨fun v hv => match v, hv with
    | 0, _ => qa44_0
    | 1, _ => qa44_1
    | 2, _ => qa44_2
    | 3, _ => qa44_3
    , qb44, qc44⟩
  | 45, _, _ => ⟨fun v hv => match v, hv with
    | 0, _ => qa45_0
    | 1, _ => qa45_1
    | 2, _ => qa45_2
    | 3, _ => qa45_3
    , qb45, qc45⟩
  | 46, _, _ => ⟨fun v hv => match v, hv with
    | 0, _ => qa46_0
    | 1, _ => qa46_1
    | 2, _ => qa46_2
    | 3, _ => qa46_3
    , qb46, qc46⟩
  | 47, _, _ => ⟨fun v hv => match v, hv with
    | 0, _ => qa47_0
    | 1, _ => qa47_1
    | 2, _ => qa47_2
    | 3, _ => qa47_3
    , qb47, qc47⟩
  | 48, _, _ => ⟨fun v hv => match v, hv with
    | 0, _ => qa48_0
    | 1, _ => qa48_1
    | 2, _ => qa48_2
    | 3, _ => qa48_3
    , qb48, qc48⟩
  | 49, _, _ => ⟨fun v hv => match v, hv with
    | 0, _ => qa49_0
    | 1, _ => qa49_1
    | 2, _ => qa49_2
    | 3, _ => qa49_3
    , qb49, qc49⟩
  | 50, _, _ => ⟨fun v hv => match v, hv with
    | 0, _ => qa50_0
    | 1, _ => qa50_1
    | 2, _ => qa50_2
    | 3, _ => qa50_3
    , qb50, qc50⟩
  | 51, _, _ => ⟨fun v hv => match v, hv with
    | 0, _ => qa51_0
    | 1, _ => qa51_1
    | 2, _ => qa51_2
    | 3, _ => qa51_3
    , qb51, qc51⟩
  | 52, _, _ => ⟨fun v hv => match v, hv with
    | 0, _ => qa52_0
    | 1, _ => qa52_1
    | 2, _ => qa52_2
    | 3, _ => qa52_3
    , qb52, qc52⟩
  | 53, _, _ => ⟨fun v hv => match v, hv with
    | 0, _ => qa53_0
    | 1, _ => qa53_1
    | 2, _ => qa53_2
    | 3, _ => qa53_3
    , qb53, qc53⟩
  | 54, _, _ => ⟨fun v hv => match v, hv with
    | 0, _ => qa54_0
    | 1, _ => qa54_1
    | 2, _ => qa54_2
    | 3, _ => qa54_3
    , qb54, qc54⟩
  | 55, _, _ => ⟨fun v hv => match v, hv with
    | 0, _ => qa55_0
    | 1, _ => qa55_1
    | 2, _ => qa55_2
    | 3, _ => qa55_3
    , qb55, qc55⟩
  | 56, _, _ => ⟨fun v hv => match v, hv with
    | 0, _ => qa56_0
    | 1, _ => qa56_1
    | 2, _ => qa56_2
    | 3, _ => qa56_3
    , qb56, qc56⟩
  | 57, _, _ => ⟨fun v hv => match v, hv with
    | 0, _ => qa57_0
    | 1, _ => qa57_1
    | 2, _ => qa57_2
    | 3, _ => qa57_3
    , qb57, qc57⟩
  | 58, _, _ => ⟨fun v hv => match v, hv with
    | 0, _ => qa58_0
    | 1, _ => qa58_1
    | 2, _ => qa58_2
    | 3, _ => qa58_3
    , qb58, qc58⟩
  | 59, _, _ => ⟨fun v hv => match v, hv with
    | 0, _ => qa59_0
    | 1, _ => qa59_1
    | 2, _ => qa59_2
    | 3, _ => qa59_3
    , qb59, qc59⟩
  | 60, _, _ => ⟨fun v hv => match v, hv with
    | 0, _ => qa60_0
    | 1, _ => qa60_1
    | 2, _ => qa60_2
    | 3, _ => qa60_3
    , qb60, qc60⟩
  | 61, _, _ => ⟨fun v hv => match v, hv with
    | 0, _ => qa61_0
    | 1, _ => qa61_1
    | 2, _ => qa61_2
    | 3, _ => qa61_3
    , qb61, qc61⟩
  | 62, _, _ => ⟨fun v hv => match v, hv with
    | 0, _ => qa62_0
    | 1, _ => qa62_1
    | 2, _ => qa62_2
    | 3, _ => qa62_3
    , qb62, qc62⟩
  | 63, _, _ => ⟨fun v hv => match v, hv with
    | 0, _ => qa63_0
    | 1, _ => qa63_1
    | 2, _ => qa63_2
    | 3, _ => qa63_3
    , qb63, qc63⟩
  | 64, _, _ => ⟨fun v hv => match v, hv with
    | 0, _ => qa64_0
    | 1, _ => qa64_1
    | 2, _ => qa64_2
    | 3, _ => qa64_3
    , qb64, qc64⟩
  | 65, _, _ => ⟨fun v hv => match v, hv with
    | 0, _ => qa65_0
    | 1, _ => qa65_1
    | 2, _ => qa65_2
    | 3, _ => qa65_3
    , qb65, qc65⟩
  | 66, _, _ => ⟨fun v hv => match v, hv with
    | 0, _ => qa66_0
    | 1, _ => qa66_1
    | 2, _ => qa66_2
    | 3, _ => qa66_3
    , qb66, qc66⟩
  | 67, _, _ => ⟨fun v hv => match v, hv with
    | 0, _ => qa67_0
    | 1, _ => qa67_1
    | 2, _ => qa67_2
    | 3, _ => qa67_3
    , qb67, qc67⟩
  | 68, _, _ => ⟨fun v hv => match v, hv with
    | 0, _ => qa68_0
    | 1, _ => qa68_1
    | 2, _ => qa68_2
    | 3, _ => qa68_3
    , qb68, qc68⟩
  | 69, _, _ => ⟨fun v hv => match v, hv with
    | 0, _ => qa69_0
    | 1, _ => qa69_1
    | 2, _ => qa69_2
    | 3, _ => qa69_3
    , qb69, qc69⟩
  | 70, _, _ => ⟨fun v hv => match v, hv with
    | 0, _ => qa70_0
    | 1, _ => qa70_1
    | 2, _ => qa70_2
    | 3, _ => qa70_3
    , qb70, qc70⟩
  | 71, _, _ => ⟨fun v hv => match v, hv with
    | 0, _ => qa71_0
    | 1, _ => qa71_1
    | 2, _ => qa71_2
    | 3, _ => qa71_3
    , qb71, qc71⟩
  | 72, _, _ => ⟨fun v hv => match v, hv with
    | 0, _ => qa72_0
    | 1, _ => qa72_1
    | 2, _ => qa72_2
    | 3, _ => qa72_3
    , qb72, qc72⟩
  | 73, _, _ => ⟨fun v hv => match v, hv with
    | 0, _ => qa73_0
    | 1, _ => qa73_1
    | 2, _ => qa73_2
    | 3, _ => qa73_3
    , qb73, qc73⟩
  | 74, _, _ => ⟨fun v hv => match v, hv with
    | 0, _ => qa74_0
    | 1, _ => qa74_1
    | 2, _ => qa74_2
    | 3, _ => qa74_3
    , qb74, qc74⟩
  | 75, _, _ => ⟨fun v hv => match v, hv with
    | 0, _ => qa75_0
    | 1, _ => qa75_1
    | 2, _ => qa75_2
    | 3, _ => qa75_3
    , qb75, qc75⟩
  | 76, _, _ => ⟨fun v hv => match v, hv with
    | 0, _ => qa76_0
    | 1, _ => qa76_1
    | 2, _ => qa76_2
    | 3, _ => qa76_3
    , qb76, qc76⟩
  | 77, _, _ => ⟨fun v hv => match v, hv with
    | 0, _ => qa77_0
    | 1, _ => qa77_1
    | 2, _ => qa77_2
    | 3, _ => qa77_3
    , qb77, qc77⟩
  | 78, _, _ => ⟨fun v hv => match v, hv with
    | 0, _ => qa78_0
    | 1, _ => qa78_1
    | 2, _ => qa78_2
    | 3, _ => qa78_3
    , qb78, qc78⟩
  | 79, _, _ => ⟨fun v hv => match v, hv with
    | 0, _ => qa79_0
    | 1, _ => qa79_1
    | 2, _ => qa79_2
    | 3, _ => qa79_3
    , qb79, qc79⟩
  | 80, _, _ => ⟨fun v hv => match v, hv with
    | 0, _ => qa80_0
    | 1, _ => qa80_1
    | 2, _ => qa80_2
    | 3, _ => qa80_3
    , qb80, qc80⟩
  | n + 81, h, _ => absurd h (by omega)
/-- What the row's variables are laid with. -/
theorem rowErr (u : TypeId) (h : Tryd.prog.typeName? 3 u = some "*errors.errorString") : u = 83 :=
  typeName_ptr_named (nm := "errors.errorString") (by rw [show "*" ++ "errors.errorString" = "*errors.errorString" by decide]; kernel_rfl) (by kernel_rfl) (by decide) u (by rw [show "*" ++ "errors.errorString" = "*errors.errorString" by decide]; exact h)
theorem rows_laid {W : World} {text : List UInt8} {r : List (String × DataW Unit)} (h : laidMet Tryd.prog (("strconv.ErrRange", .iface "*errors.errorString" (.ptr (.agg [.lit (.string text)]))) :: r) W) : ∀ x ∈ Lx.lq, RowS W (fun _ => True) x := by
  obtain ⟨a, s, h1, h2, _, _⟩ := laid_sentinel (g := 1) (ti := 61) (tp := 83) (te := 85) (ts := 9) h (by kernel_rfl) (by kernel_rfl) Tryd.underlying61 rowErr Tryd.underlying83 Tryd.underlying85 rfl rfl Tryd.underlying9 (by kernel_rfl) (by kernel_rfl)
  intro x hx
  rw [Lx.lq, List.mem_singleton] at hx
  subst hx
  have hg : Tryd.prog.globalNamed "strconv.ErrRange" = some 1 := by kernel_rfl
  simp only [World.var?, hg, Option.bind_some] at h1
  obtain ⟨ab, ao, asp⟩ := a
  simp only [World.cell?] at h2
  split at h2
  · rename_i c e fz hb
    cases asp with
    | some q => simp at h2
    | none =>
      simp only [Option.isSome_none, Bool.false_eq_true, if_false] at h2
      have hlt := (Array.getElem?_eq_some_iff.1 h2).1
      split at h1
      · rename_i cs e2 fz2 hb2
        have h1' := Option.some.inj h1
        subst h1'
        refine ⟨_, _, _, hb2, rfl, rfl, fun i x y hx hy => ?_⟩
        match i with
        | 0 =>
          cases hx; cases hy
          have := VRel.gptr (μ := muS W fun _ => True) (n := 0) 0 [] ab ao c (muS_some.2 ⟨trivial, e, fz, hb⟩) (by show ao + 0 ≤ c.size; omega) (fun j x y hx => by simp at hx)
          rw [Nat.add_zero] at this
          exact .iface _ _ _ rfl this
        | i + 1 => cases hx
      · cases h1
  · cases h2
theorem nests_walk (n how : Int) (w : World) (hw : ∀ x ∈ Lx.lq, RowS w (fun _ => True) x) : Calls Tryd.prog 3 #[.int .i64 n, .int .i64 how] w fun e w' => e = .returned (.bool true) ∧ Below w.heap.size w w' := nests_walk' runs_ok n how w hw
end Go.Proofs.YtachednafdmmaaaDoor.AI
