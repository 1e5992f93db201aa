-- Printed by the kit's print tool; changed by hand in one goal.
import Derived.Test.YtclblekgjhcgoaaPGeomBackx0
import Derived.Test.YtclblekgjhcgoaaPGeomBackx1
namespace Go.Proofs.Ytclblekgjhcgoaa.PGeomBack
open Go.RowKit Go.Proofs.YtclblekgjhcgoaaW.PrintWords Go.Proofs.YtclblekgjhcgoaaW.PrintLast Go.Proofs.YtclblekgjhcgoaaW.PrintMore
attribute [local go_sem] max2_int min2_int max_two min_two max_three min_three max_four min_four   -- for this text's walks alone
set_option linter.unusedVariables false
set_option linter.unusedSimpArgs false

/-! ### gantlinelaw2_GeomBack: function 5 -/
def gantlinelaw2_GeomBack.f (k : Nat) (a0 : Int) (a1 : Int) (a2 : Int) : Option (Bool) := (gantlinelaw2_awake.f k).bind fun t122 => (if t122 = true then ((geom_Addr.f a0 a1 a2).bind fun t123 => (if t123 = 0 then (if a0 < 1 then (some true) else (if a0 > 511 then (some true) else (if a1 < 0 then (some true) else ((geom_Places.f a2).bind fun t124 => (some (decide (a1 ≥ t124))))))) else ((geom_Addr.f a0 (wrap64 (a1 + 1)) a2).bind fun t125 => ((geom_Span.f t123).bind fun t126 => (if t126 = a0 then ((geom_Place.f k t123 a2).bind fun t127 => (if t127 = a1 then ((geom_Words.f a2).bind fun t128 => ((geom_Places.f a2).bind fun t129 => (if (wrap64 (t128 * t129)) = 64 then (if t125 = 0 then (some true) else ((geom_Words.f a2).bind fun t130 => (some (t125 == (wrap64 (t123 + t130)))))) else (some false)))) else (some false))) else (some false)))))) else (some false))
theorem gantlinelaw2_GeomBack.mono : ∀ a0 a1 a2 k, LeO (gantlinelaw2_GeomBack.f k a0 a1 a2) (gantlinelaw2_GeomBack.f (k + 1) a0 a1 a2) := by
  intro a0 a1 a2 k
  unfold gantlinelaw2_GeomBack.f
  repeat' first
      | (with_reducible exact gantlinelaw2_awake.mono _)
      | (with_reducible exact geom_Place.mono _ _ _)
      | (with_reducible exact LeO.refl _)
      | (with_reducible exact LeO.none _)
      | (with_reducible refine LeO.ite ?_ ?_)
      | (with_reducible refine LeO.bind ?_ (fun _ => ?_))
      | exact gantlinelaw2_awake.mono _
      | exact geom_Place.mono _ _ _
      | exact LeO.none _
      | refine LeO.ite ?_ ?_
      | refine LeO.bind ?_ (fun _ => ?_)
set_option maxHeartbeats 8000000 in
set_option maxRecDepth 100000 in
theorem gantlinelaw2_GeomBack.calls (k : Nat) (a0 : Int) (a1 : Int) (a2 : Int) (r : Bool) (w : World) (h : gantlinelaw2_GeomBack.f k a0 a1 a2 = some r) :
    Calls Try.prog 5 #[.int .i64 a0, .int .i64 a1, .int .i64 a2] w fun e w' => e = .returned (.bool r) ∧ Drawn0 w w' := by
  have H : ((gantlinelaw2_awake.f k).bind fun t122 => (if t122 = true then ((geom_Addr.f a0 a1 a2).bind fun t123 => (if t123 = 0 then (if a0 < 1 then (some true) else (if a0 > 511 then (some true) else (if a1 < 0 then (some true) else ((geom_Places.f a2).bind fun t124 => (some (decide (a1 ≥ t124))))))) else ((geom_Addr.f a0 (wrap64 (a1 + 1)) a2).bind fun t125 => ((geom_Span.f t123).bind fun t126 => (if t126 = a0 then ((geom_Place.f k t123 a2).bind fun t127 => (if t127 = a1 then ((geom_Words.f a2).bind fun t128 => ((geom_Places.f a2).bind fun t129 => (if (wrap64 (t128 * t129)) = 64 then (if t125 = 0 then (some true) else ((geom_Words.f a2).bind fun t130 => (some (t125 == (wrap64 (t123 + t130)))))) else (some false)))) else (some false))) else (some false)))))) else (some false))) = some r := h
  clear h
  replace H := Option.bind_eq_some_iff.mp H
  obtain ⟨t122, A40, H⟩ := H
  replace H : (if t122 = true then ((geom_Addr.f a0 a1 a2).bind fun t123 => (if t123 = 0 then (if a0 < 1 then (some true) else (if a0 > 511 then (some true) else (if a1 < 0 then (some true) else ((geom_Places.f a2).bind fun t124 => (some (decide (a1 ≥ t124))))))) else ((geom_Addr.f a0 (wrap64 (a1 + 1)) a2).bind fun t125 => ((geom_Span.f t123).bind fun t126 => (if t126 = a0 then ((geom_Place.f k t123 a2).bind fun t127 => (if t127 = a1 then ((geom_Words.f a2).bind fun t128 => ((geom_Places.f a2).bind fun t129 => (if (wrap64 (t128 * t129)) = 64 then (if t125 = 0 then (some true) else ((geom_Words.f a2).bind fun t130 => (some (t125 == (wrap64 (t123 + t130)))))) else (some false)))) else (some false))) else (some false)))))) else (some false)) = some r := H
  have A4 := Aside0.mk A40
  clear A40
  by_cases c5 : t122 = true
  · subst c5
    have H1 : ((geom_Addr.f a0 a1 a2).bind fun t123 => (if t123 = 0 then (if a0 < 1 then (some true) else (if a0 > 511 then (some true) else (if a1 < 0 then (some true) else ((geom_Places.f a2).bind fun t124 => (some (decide (a1 ≥ t124))))))) else ((geom_Addr.f a0 (wrap64 (a1 + 1)) a2).bind fun t125 => ((geom_Span.f t123).bind fun t126 => (if t126 = a0 then ((geom_Place.f k t123 a2).bind fun t127 => (if t127 = a1 then ((geom_Words.f a2).bind fun t128 => ((geom_Places.f a2).bind fun t129 => (if (wrap64 (t128 * t129)) = 64 then (if t125 = 0 then (some true) else ((geom_Words.f a2).bind fun t130 => (some (t125 == (wrap64 (t123 + t130)))))) else (some false)))) else (some false))) else (some false)))))) = some r := by rw [if_pos rfl] at H; exact H
    clear H
    have H := H1
    clear H1
    replace H := Option.bind_eq_some_iff.mp H
    obtain ⟨t123, A60, H⟩ := H
    replace H : (if t123 = 0 then (if a0 < 1 then (some true) else (if a0 > 511 then (some true) else (if a1 < 0 then (some true) else ((geom_Places.f a2).bind fun t124 => (some (decide (a1 ≥ t124))))))) else ((geom_Addr.f a0 (wrap64 (a1 + 1)) a2).bind fun t125 => ((geom_Span.f t123).bind fun t126 => (if t126 = a0 then ((geom_Place.f k t123 a2).bind fun t127 => (if t127 = a1 then ((geom_Words.f a2).bind fun t128 => ((geom_Places.f a2).bind fun t129 => (if (wrap64 (t128 * t129)) = 64 then (if t125 = 0 then (some true) else ((geom_Words.f a2).bind fun t130 => (some (t125 == (wrap64 (t123 + t130)))))) else (some false)))) else (some false))) else (some false))))) = some r := H
    have A6 := Aside0.mk A60
    clear A60
    by_cases c7 : t123 = 0
    · rw [if_pos c7] at H
      have c7b0 : (t123 == 0) = true := beq_iff_eq.mpr c7
      have c7b1 : (t123 != 0) = false := bne_eq_false_iff_eq.mpr c7
      clear c7
      by_cases c8 : a0 < 1
      · rw [if_pos c8] at H
        have c8b0 : decide (a0 < 1) = true := decide_eq_true c8
        clear c8
        obtain rfl := Option.some.inj H
        go_enter Try.func5, Try.ntmps5
        go_wp2_with (first | ((with_reducible refine gate_callee (f := 8) rfl ?_); refine goesL_ (some 9) rfl rfl Try.func8 (by kernel_rfl) rfl #[] rfl (by (try simp only [List.map_toArray, List.map_cons, List.map_nil]); first | done | rfl | (simp only [List.length_drop, List.length_take]; rfl)) ?_; (with_reducible refine (gantlinelaw2_awake.calls k  true _ A4.out).mono ?_); rintro e w' ⟨rfl, ⟨nd, rfl⟩⟩; refine ⟨_, rfl, ?_⟩) | ((with_reducible refine gate_callee (f := 14) rfl ?_); refine goesL_ (some 14) rfl rfl Try.func14 (by kernel_rfl) rfl #[.int .i64 a0, .int .i64 a1, .int .i64 a2] rfl (by (try simp only [List.map_toArray, List.map_cons, List.map_nil]); first | done | rfl | (simp only [List.length_drop, List.length_take]; rfl)) ?_; (with_reducible refine (geom_Addr.calls a0 a1 a2 t123 _ A6.out).mono ?_); rintro e w' ⟨rfl, ⟨nd, rfl⟩⟩; refine ⟨_, rfl, ?_⟩))
        go_ret
        exact ⟨by first | rfl | (simp; done) | (simp [*]; done), by repeat (first | exact Drawn0.refl _ | apply Drawn0.step)⟩
      · rw [if_neg c8] at H
        have c8b0 : decide (a0 < 1) = false := decide_eq_false c8
        clear c8
        by_cases c9 : a0 > 511
        · rw [if_pos c9] at H
          have c9b0 : decide (511 < a0) = true := decide_eq_true c9
          clear c9
          obtain rfl := Option.some.inj H
          go_enter Try.func5, Try.ntmps5
          go_wp2_with (first | ((with_reducible refine gate_callee (f := 8) rfl ?_); refine goesL_ (some 9) rfl rfl Try.func8 (by kernel_rfl) rfl #[] rfl (by (try simp only [List.map_toArray, List.map_cons, List.map_nil]); first | done | rfl | (simp only [List.length_drop, List.length_take]; rfl)) ?_; (with_reducible refine (gantlinelaw2_awake.calls k  true _ A4.out).mono ?_); rintro e w' ⟨rfl, ⟨nd, rfl⟩⟩; refine ⟨_, rfl, ?_⟩) | ((with_reducible refine gate_callee (f := 14) rfl ?_); refine goesL_ (some 14) rfl rfl Try.func14 (by kernel_rfl) rfl #[.int .i64 a0, .int .i64 a1, .int .i64 a2] rfl (by (try simp only [List.map_toArray, List.map_cons, List.map_nil]); first | done | rfl | (simp only [List.length_drop, List.length_take]; rfl)) ?_; (with_reducible refine (geom_Addr.calls a0 a1 a2 t123 _ A6.out).mono ?_); rintro e w' ⟨rfl, ⟨nd, rfl⟩⟩; refine ⟨_, rfl, ?_⟩))
          go_ret
          exact ⟨by first | rfl | (simp; done) | (simp [*]; done), by repeat (first | exact Drawn0.refl _ | apply Drawn0.step)⟩
        · rw [if_neg c9] at H
          have c9b0 : decide (511 < a0) = false := decide_eq_false c9
          clear c9
          by_cases c10 : a1 < 0
          · rw [if_pos c10] at H
            have c10b0 : decide (a1 < 0) = true := decide_eq_true c10
            clear c10
            obtain rfl := Option.some.inj H
            go_enter Try.func5, Try.ntmps5
            go_wp2_with (first | ((with_reducible refine gate_callee (f := 8) rfl ?_); refine goesL_ (some 9) rfl rfl Try.func8 (by kernel_rfl) rfl #[] rfl (by (try simp only [List.map_toArray, List.map_cons, List.map_nil]); first | done | rfl | (simp only [List.length_drop, List.length_take]; rfl)) ?_; (with_reducible refine (gantlinelaw2_awake.calls k  true _ A4.out).mono ?_); rintro e w' ⟨rfl, ⟨nd, rfl⟩⟩; refine ⟨_, rfl, ?_⟩) | ((with_reducible refine gate_callee (f := 14) rfl ?_); refine goesL_ (some 14) rfl rfl Try.func14 (by kernel_rfl) rfl #[.int .i64 a0, .int .i64 a1, .int .i64 a2] rfl (by (try simp only [List.map_toArray, List.map_cons, List.map_nil]); first | done | rfl | (simp only [List.length_drop, List.length_take]; rfl)) ?_; (with_reducible refine (geom_Addr.calls a0 a1 a2 t123 _ A6.out).mono ?_); rintro e w' ⟨rfl, ⟨nd, rfl⟩⟩; refine ⟨_, rfl, ?_⟩))
            go_ret
            exact ⟨by first | rfl | (simp; done) | (simp [*]; done), by repeat (first | exact Drawn0.refl _ | apply Drawn0.step)⟩
          · rw [if_neg c10] at H
            have c10b0 : decide (a1 < 0) = false := decide_eq_false c10
            clear c10
            replace H := Option.bind_eq_some_iff.mp H
            obtain ⟨t124, A110, H⟩ := H
            replace H : (some (decide (a1 ≥ t124))) = some r := H
            have A11 := Aside0.mk A110
            clear A110
            obtain rfl := Option.some.inj H
            go_enter Try.func5, Try.ntmps5
            go_wp2_with (first | ((with_reducible refine gate_callee (f := 8) rfl ?_); refine goesL_ (some 9) rfl rfl Try.func8 (by kernel_rfl) rfl #[] rfl (by (try simp only [List.map_toArray, List.map_cons, List.map_nil]); first | done | rfl | (simp only [List.length_drop, List.length_take]; rfl)) ?_; (with_reducible refine (gantlinelaw2_awake.calls k  true _ A4.out).mono ?_); rintro e w' ⟨rfl, ⟨nd, rfl⟩⟩; refine ⟨_, rfl, ?_⟩) | ((with_reducible refine gate_callee (f := 14) rfl ?_); refine goesL_ (some 14) rfl rfl Try.func14 (by kernel_rfl) rfl #[.int .i64 a0, .int .i64 a1, .int .i64 a2] rfl (by (try simp only [List.map_toArray, List.map_cons, List.map_nil]); first | done | rfl | (simp only [List.length_drop, List.length_take]; rfl)) ?_; (with_reducible refine (geom_Addr.calls a0 a1 a2 t123 _ A6.out).mono ?_); rintro e w' ⟨rfl, ⟨nd, rfl⟩⟩; refine ⟨_, rfl, ?_⟩) | (go_at_call 12; (with_reducible refine (geom_Places.calls a2 t124 _ A11.out).mono ?_); rintro e w' ⟨rfl, ⟨nd, rfl⟩⟩))
            go_ret
            exact ⟨by first | rfl | (simp; done) | (simp [*]; done), by repeat (first | exact Drawn0.refl _ | apply Drawn0.step)⟩
    · rw [if_neg c7] at H
      have c7b0 : (t123 == 0) = false := beq_eq_false_iff_ne.mpr c7
      have c7b1 : (t123 != 0) = true := bne_iff_ne.mpr c7
      replace H := Option.bind_eq_some_iff.mp H
      obtain ⟨t125, A120, H⟩ := H
      replace H : ((geom_Span.f t123).bind fun t126 => (if t126 = a0 then ((geom_Place.f k t123 a2).bind fun t127 => (if t127 = a1 then ((geom_Words.f a2).bind fun t128 => ((geom_Places.f a2).bind fun t129 => (if (wrap64 (t128 * t129)) = 64 then (if t125 = 0 then (some true) else ((geom_Words.f a2).bind fun t130 => (some (t125 == (wrap64 (t123 + t130)))))) else (some false)))) else (some false))) else (some false))) = some r := H
      have A12 := Aside0.mk A120
      clear A120
      replace H := Option.bind_eq_some_iff.mp H
      obtain ⟨t126, A130, H⟩ := H
      replace H : (if t126 = a0 then ((geom_Place.f k t123 a2).bind fun t127 => (if t127 = a1 then ((geom_Words.f a2).bind fun t128 => ((geom_Places.f a2).bind fun t129 => (if (wrap64 (t128 * t129)) = 64 then (if t125 = 0 then (some true) else ((geom_Words.f a2).bind fun t130 => (some (t125 == (wrap64 (t123 + t130)))))) else (some false)))) else (some false))) else (some false)) = some r := H
      have A13 := Aside0.mk A130
      clear A130
      by_cases c14 : t126 = a0
      · rw [if_pos c14] at H
        have c14b0 : (t126 == a0) = true := beq_iff_eq.mpr c14
        have c14b1 : (t126 != a0) = false := bne_eq_false_iff_eq.mpr c14
        clear c14
        replace H := Option.bind_eq_some_iff.mp H
        obtain ⟨t127, A150, H⟩ := H
        replace H : (if t127 = a1 then ((geom_Words.f a2).bind fun t128 => ((geom_Places.f a2).bind fun t129 => (if (wrap64 (t128 * t129)) = 64 then (if t125 = 0 then (some true) else ((geom_Words.f a2).bind fun t130 => (some (t125 == (wrap64 (t123 + t130)))))) else (some false)))) else (some false)) = some r := H
        have A15 := Aside0.mk A150
        clear A150
        by_cases c16 : t127 = a1
        · rw [if_pos c16] at H
          have c16b0 : (t127 == a1) = true := beq_iff_eq.mpr c16
          have c16b1 : (t127 != a1) = false := bne_eq_false_iff_eq.mpr c16
          clear c16
          replace H := Option.bind_eq_some_iff.mp H
          obtain ⟨t128, A170, H⟩ := H
          replace H : ((geom_Places.f a2).bind fun t129 => (if (wrap64 (t128 * t129)) = 64 then (if t125 = 0 then (some true) else ((geom_Words.f a2).bind fun t130 => (some (t125 == (wrap64 (t123 + t130)))))) else (some false))) = some r := H
          have A17 := Aside0.mk A170
          clear A170
          replace H := Option.bind_eq_some_iff.mp H
          obtain ⟨t129, A180, H⟩ := H
          replace H : (if (wrap64 (t128 * t129)) = 64 then (if t125 = 0 then (some true) else ((geom_Words.f a2).bind fun t130 => (some (t125 == (wrap64 (t123 + t130)))))) else (some false)) = some r := H
          have A18 := Aside0.mk A180
          clear A180
          by_cases c19 : (wrap64 (t128 * t129)) = 64
          · rw [if_pos c19] at H
            have c19b0 : ((wrap64 (t128 * t129)) == 64) = true := beq_iff_eq.mpr c19
            have c19b1 : ((wrap64 (t128 * t129)) != 64) = false := bne_eq_false_iff_eq.mpr c19
            clear c19
            by_cases c20 : t125 = 0
            · rw [if_pos c20] at H
              have c20b0 : (t125 == 0) = true := beq_iff_eq.mpr c20
              have c20b1 : (t125 != 0) = false := bne_eq_false_iff_eq.mpr c20
              clear c20
              obtain rfl := Option.some.inj H
              go_enter Try.func5, Try.ntmps5
              go_wp2_with (first | ((with_reducible refine gate_callee (f := 8) rfl ?_); refine goesL_ (some 9) rfl rfl Try.func8 (by kernel_rfl) rfl #[] rfl (by (try simp only [List.map_toArray, List.map_cons, List.map_nil]); first | done | rfl | (simp only [List.length_drop, List.length_take]; rfl)) ?_; (with_reducible refine (gantlinelaw2_awake.calls k  true _ A4.out).mono ?_); rintro e w' ⟨rfl, ⟨nd, rfl⟩⟩; refine ⟨_, rfl, ?_⟩) | ((with_reducible refine gate_callee (f := 14) rfl ?_); refine goesL_ (some 14) rfl rfl Try.func14 (by kernel_rfl) rfl #[.int .i64 a0, .int .i64 a1, .int .i64 a2] rfl (by (try simp only [List.map_toArray, List.map_cons, List.map_nil]); first | done | rfl | (simp only [List.length_drop, List.length_take]; rfl)) ?_; (with_reducible refine (geom_Addr.calls a0 a1 a2 t123 _ A6.out).mono ?_); rintro e w' ⟨rfl, ⟨nd, rfl⟩⟩; refine ⟨_, rfl, ?_⟩) | ((with_reducible refine gate_callee (f := 14) rfl ?_); refine goesL_ (some 37) rfl rfl Try.func14 (by kernel_rfl) rfl #[.int .i64 a0, .int .i64 (wrap64 (a1 + 1)), .int .i64 a2] rfl (by (try simp only [List.map_toArray, List.map_cons, List.map_nil]); first | done | rfl | (simp only [List.length_drop, List.length_take]; rfl)) ?_; (with_reducible refine (geom_Addr.calls a0 (wrap64 (a1 + 1)) a2 t125 _ A12.out).mono ?_); rintro e w' ⟨rfl, ⟨nd, rfl⟩⟩; refine ⟨_, rfl, ?_⟩) | ((with_reducible refine gate_callee (f := 13) rfl ?_); refine goesL_ (some 39) rfl rfl Try.func13 (by kernel_rfl) rfl #[.int .i64 t123] rfl (by (try simp only [List.map_toArray, List.map_cons, List.map_nil]); first | done | rfl | (simp only [List.length_drop, List.length_take]; rfl)) ?_; (with_reducible refine (geom_Span.calls t123 t126 _ A13.out).mono ?_); rintro e w' ⟨rfl, ⟨nd, rfl⟩⟩; refine ⟨_, rfl, ?_⟩) | (go_at_call 9; (with_reducible refine (geom_Place.calls k t123 a2 t127 _ A15.out).mono ?_); rintro e w' ⟨rfl, ⟨nd, rfl⟩⟩) | (go_at_call 11; (with_reducible refine (geom_Words.calls a2 t128 _ A17.out).mono ?_); rintro e w' ⟨rfl, ⟨nd, rfl⟩⟩) | (go_at_call 12; (with_reducible refine (geom_Places.calls a2 t129 _ A18.out).mono ?_); rintro e w' ⟨rfl, ⟨nd, rfl⟩⟩))
              go_ret
              exact ⟨by first | rfl | (simp; done) | (simp [*]; done), by repeat (first | exact Drawn0.refl _ | apply Drawn0.step)⟩
            · rw [if_neg c20] at H
              have c20b0 : (t125 == 0) = false := beq_eq_false_iff_ne.mpr c20
              have c20b1 : (t125 != 0) = true := bne_iff_ne.mpr c20
              replace H := Option.bind_eq_some_iff.mp H
              obtain ⟨t130, A210, H⟩ := H
              replace H : (some (t125 == (wrap64 (t123 + t130)))) = some r := H
              have A21 := Aside0.mk A210
              clear A210
              obtain rfl := Option.some.inj H
              go_enter Try.func5, Try.ntmps5
              go_wp2_with (first | ((with_reducible refine gate_callee (f := 8) rfl ?_); refine goesL_ (some 9) rfl rfl Try.func8 (by kernel_rfl) rfl #[] rfl (by (try simp only [List.map_toArray, List.map_cons, List.map_nil]); first | done | rfl | (simp only [List.length_drop, List.length_take]; rfl)) ?_; (with_reducible refine (gantlinelaw2_awake.calls k  true _ A4.out).mono ?_); rintro e w' ⟨rfl, ⟨nd, rfl⟩⟩; refine ⟨_, rfl, ?_⟩) | ((with_reducible refine gate_callee (f := 14) rfl ?_); refine goesL_ (some 14) rfl rfl Try.func14 (by kernel_rfl) rfl #[.int .i64 a0, .int .i64 a1, .int .i64 a2] rfl (by (try simp only [List.map_toArray, List.map_cons, List.map_nil]); first | done | rfl | (simp only [List.length_drop, List.length_take]; rfl)) ?_; (with_reducible refine (geom_Addr.calls a0 a1 a2 t123 _ A6.out).mono ?_); rintro e w' ⟨rfl, ⟨nd, rfl⟩⟩; refine ⟨_, rfl, ?_⟩) | ((with_reducible refine gate_callee (f := 14) rfl ?_); refine goesL_ (some 37) rfl rfl Try.func14 (by kernel_rfl) rfl #[.int .i64 a0, .int .i64 (wrap64 (a1 + 1)), .int .i64 a2] rfl (by (try simp only [List.map_toArray, List.map_cons, List.map_nil]); first | done | rfl | (simp only [List.length_drop, List.length_take]; rfl)) ?_; (with_reducible refine (geom_Addr.calls a0 (wrap64 (a1 + 1)) a2 t125 _ A12.out).mono ?_); rintro e w' ⟨rfl, ⟨nd, rfl⟩⟩; refine ⟨_, rfl, ?_⟩) | ((with_reducible refine gate_callee (f := 13) rfl ?_); refine goesL_ (some 39) rfl rfl Try.func13 (by kernel_rfl) rfl #[.int .i64 t123] rfl (by (try simp only [List.map_toArray, List.map_cons, List.map_nil]); first | done | rfl | (simp only [List.length_drop, List.length_take]; rfl)) ?_; (with_reducible refine (geom_Span.calls t123 t126 _ A13.out).mono ?_); rintro e w' ⟨rfl, ⟨nd, rfl⟩⟩; refine ⟨_, rfl, ?_⟩) | (go_at_call 9; (with_reducible refine (geom_Place.calls k t123 a2 t127 _ A15.out).mono ?_); rintro e w' ⟨rfl, ⟨nd, rfl⟩⟩) | (go_at_call 11; (with_reducible refine (geom_Words.calls a2 t128 _ A17.out).mono ?_); rintro e w' ⟨rfl, ⟨nd, rfl⟩⟩) | (go_at_call 12; (with_reducible refine (geom_Places.calls a2 t129 _ A18.out).mono ?_); rintro e w' ⟨rfl, ⟨nd, rfl⟩⟩) | (go_at_call 11; (with_reducible refine (geom_Words.calls a2 t130 _ A21.out).mono ?_); rintro e w' ⟨rfl, ⟨nd, rfl⟩⟩))
              go_ret
              exact ⟨by first | rfl | (simp; done) | (simp [*]; done) | (rw [Option.some.inj (A17.out.symm.trans A21.out)]; rfl), by repeat (first | exact Drawn0.refl _ | apply Drawn0.step)⟩
          · rw [if_neg c19] at H
            have c19b0 : ((wrap64 (t128 * t129)) == 64) = false := beq_eq_false_iff_ne.mpr c19
            have c19b1 : ((wrap64 (t128 * t129)) != 64) = true := bne_iff_ne.mpr c19
            obtain rfl := Option.some.inj H
            go_enter Try.func5, Try.ntmps5
            go_wp2_with (first | ((with_reducible refine gate_callee (f := 8) rfl ?_); refine goesL_ (some 9) rfl rfl Try.func8 (by kernel_rfl) rfl #[] rfl (by (try simp only [List.map_toArray, List.map_cons, List.map_nil]); first | done | rfl | (simp only [List.length_drop, List.length_take]; rfl)) ?_; (with_reducible refine (gantlinelaw2_awake.calls k  true _ A4.out).mono ?_); rintro e w' ⟨rfl, ⟨nd, rfl⟩⟩; refine ⟨_, rfl, ?_⟩) | ((with_reducible refine gate_callee (f := 14) rfl ?_); refine goesL_ (some 14) rfl rfl Try.func14 (by kernel_rfl) rfl #[.int .i64 a0, .int .i64 a1, .int .i64 a2] rfl (by (try simp only [List.map_toArray, List.map_cons, List.map_nil]); first | done | rfl | (simp only [List.length_drop, List.length_take]; rfl)) ?_; (with_reducible refine (geom_Addr.calls a0 a1 a2 t123 _ A6.out).mono ?_); rintro e w' ⟨rfl, ⟨nd, rfl⟩⟩; refine ⟨_, rfl, ?_⟩) | ((with_reducible refine gate_callee (f := 14) rfl ?_); refine goesL_ (some 37) rfl rfl Try.func14 (by kernel_rfl) rfl #[.int .i64 a0, .int .i64 (wrap64 (a1 + 1)), .int .i64 a2] rfl (by (try simp only [List.map_toArray, List.map_cons, List.map_nil]); first | done | rfl | (simp only [List.length_drop, List.length_take]; rfl)) ?_; (with_reducible refine (geom_Addr.calls a0 (wrap64 (a1 + 1)) a2 t125 _ A12.out).mono ?_); rintro e w' ⟨rfl, ⟨nd, rfl⟩⟩; refine ⟨_, rfl, ?_⟩) | ((with_reducible refine gate_callee (f := 13) rfl ?_); refine goesL_ (some 39) rfl rfl Try.func13 (by kernel_rfl) rfl #[.int .i64 t123] rfl (by (try simp only [List.map_toArray, List.map_cons, List.map_nil]); first | done | rfl | (simp only [List.length_drop, List.length_take]; rfl)) ?_; (with_reducible refine (geom_Span.calls t123 t126 _ A13.out).mono ?_); rintro e w' ⟨rfl, ⟨nd, rfl⟩⟩; refine ⟨_, rfl, ?_⟩) | (go_at_call 9; (with_reducible refine (geom_Place.calls k t123 a2 t127 _ A15.out).mono ?_); rintro e w' ⟨rfl, ⟨nd, rfl⟩⟩) | (go_at_call 11; (with_reducible refine (geom_Words.calls a2 t128 _ A17.out).mono ?_); rintro e w' ⟨rfl, ⟨nd, rfl⟩⟩) | (go_at_call 12; (with_reducible refine (geom_Places.calls a2 t129 _ A18.out).mono ?_); rintro e w' ⟨rfl, ⟨nd, rfl⟩⟩))
            go_ret
            exact ⟨by first | rfl | (simp; done) | (simp [*]; done), by repeat (first | exact Drawn0.refl _ | apply Drawn0.step)⟩
        · rw [if_neg c16] at H
          have c16b0 : (t127 == a1) = false := beq_eq_false_iff_ne.mpr c16
          have c16b1 : (t127 != a1) = true := bne_iff_ne.mpr c16
          obtain rfl := Option.some.inj H
          go_enter Try.func5, Try.ntmps5
          go_wp2_with (first | ((with_reducible refine gate_callee (f := 8) rfl ?_); refine goesL_ (some 9) rfl rfl Try.func8 (by kernel_rfl) rfl #[] rfl (by (try simp only [List.map_toArray, List.map_cons, List.map_nil]); first | done | rfl | (simp only [List.length_drop, List.length_take]; rfl)) ?_; (with_reducible refine (gantlinelaw2_awake.calls k  true _ A4.out).mono ?_); rintro e w' ⟨rfl, ⟨nd, rfl⟩⟩; refine ⟨_, rfl, ?_⟩) | ((with_reducible refine gate_callee (f := 14) rfl ?_); refine goesL_ (some 14) rfl rfl Try.func14 (by kernel_rfl) rfl #[.int .i64 a0, .int .i64 a1, .int .i64 a2] rfl (by (try simp only [List.map_toArray, List.map_cons, List.map_nil]); first | done | rfl | (simp only [List.length_drop, List.length_take]; rfl)) ?_; (with_reducible refine (geom_Addr.calls a0 a1 a2 t123 _ A6.out).mono ?_); rintro e w' ⟨rfl, ⟨nd, rfl⟩⟩; refine ⟨_, rfl, ?_⟩) | ((with_reducible refine gate_callee (f := 14) rfl ?_); refine goesL_ (some 37) rfl rfl Try.func14 (by kernel_rfl) rfl #[.int .i64 a0, .int .i64 (wrap64 (a1 + 1)), .int .i64 a2] rfl (by (try simp only [List.map_toArray, List.map_cons, List.map_nil]); first | done | rfl | (simp only [List.length_drop, List.length_take]; rfl)) ?_; (with_reducible refine (geom_Addr.calls a0 (wrap64 (a1 + 1)) a2 t125 _ A12.out).mono ?_); rintro e w' ⟨rfl, ⟨nd, rfl⟩⟩; refine ⟨_, rfl, ?_⟩) | ((with_reducible refine gate_callee (f := 13) rfl ?_); refine goesL_ (some 39) rfl rfl Try.func13 (by kernel_rfl) rfl #[.int .i64 t123] rfl (by (try simp only [List.map_toArray, List.map_cons, List.map_nil]); first | done | rfl | (simp only [List.length_drop, List.length_take]; rfl)) ?_; (with_reducible refine (geom_Span.calls t123 t126 _ A13.out).mono ?_); rintro e w' ⟨rfl, ⟨nd, rfl⟩⟩; refine ⟨_, rfl, ?_⟩) | (go_at_call 9; (with_reducible refine (geom_Place.calls k t123 a2 t127 _ A15.out).mono ?_); rintro e w' ⟨rfl, ⟨nd, rfl⟩⟩))
          go_ret
          exact ⟨by first | rfl | (simp; done) | (simp [*]; done), by repeat (first | exact Drawn0.refl _ | apply Drawn0.step)⟩
      · rw [if_neg c14] at H
        have c14b0 : (t126 == a0) = false := beq_eq_false_iff_ne.mpr c14
        have c14b1 : (t126 != a0) = true := bne_iff_ne.mpr c14
        obtain rfl := Option.some.inj H
        go_enter Try.func5, Try.ntmps5
        go_wp2_with (first | ((with_reducible refine gate_callee (f := 8) rfl ?_); refine goesL_ (some 9) rfl rfl Try.func8 (by kernel_rfl) rfl #[] rfl (by (try simp only [List.map_toArray, List.map_cons, List.map_nil]); first | done | rfl | (simp only [List.length_drop, List.length_take]; rfl)) ?_; (with_reducible refine (gantlinelaw2_awake.calls k  true _ A4.out).mono ?_); rintro e w' ⟨rfl, ⟨nd, rfl⟩⟩; refine ⟨_, rfl, ?_⟩) | ((with_reducible refine gate_callee (f := 14) rfl ?_); refine goesL_ (some 14) rfl rfl Try.func14 (by kernel_rfl) rfl #[.int .i64 a0, .int .i64 a1, .int .i64 a2] rfl (by (try simp only [List.map_toArray, List.map_cons, List.map_nil]); first | done | rfl | (simp only [List.length_drop, List.length_take]; rfl)) ?_; (with_reducible refine (geom_Addr.calls a0 a1 a2 t123 _ A6.out).mono ?_); rintro e w' ⟨rfl, ⟨nd, rfl⟩⟩; refine ⟨_, rfl, ?_⟩) | ((with_reducible refine gate_callee (f := 14) rfl ?_); refine goesL_ (some 37) rfl rfl Try.func14 (by kernel_rfl) rfl #[.int .i64 a0, .int .i64 (wrap64 (a1 + 1)), .int .i64 a2] rfl (by (try simp only [List.map_toArray, List.map_cons, List.map_nil]); first | done | rfl | (simp only [List.length_drop, List.length_take]; rfl)) ?_; (with_reducible refine (geom_Addr.calls a0 (wrap64 (a1 + 1)) a2 t125 _ A12.out).mono ?_); rintro e w' ⟨rfl, ⟨nd, rfl⟩⟩; refine ⟨_, rfl, ?_⟩) | ((with_reducible refine gate_callee (f := 13) rfl ?_); refine goesL_ (some 39) rfl rfl Try.func13 (by kernel_rfl) rfl #[.int .i64 t123] rfl (by (try simp only [List.map_toArray, List.map_cons, List.map_nil]); first | done | rfl | (simp only [List.length_drop, List.length_take]; rfl)) ?_; (with_reducible refine (geom_Span.calls t123 t126 _ A13.out).mono ?_); rintro e w' ⟨rfl, ⟨nd, rfl⟩⟩; refine ⟨_, rfl, ?_⟩))
        go_ret
        exact ⟨by first | rfl | (simp; done) | (simp [*]; done), by repeat (first | exact Drawn0.refl _ | apply Drawn0.step)⟩
  · replace c5 := Bool.eq_false_iff.mpr c5
    subst c5
    have H1 : (some false) = some r := by rw [if_neg (show ¬ (false = true) by decide)] at H; exact H
    clear H
    have H := H1
    clear H1
    obtain rfl := Option.some.inj H
    go_enter Try.func5, Try.ntmps5
    go_wp2_with (first | ((with_reducible refine gate_callee (f := 8) rfl ?_); refine goesL_ (some 9) rfl rfl Try.func8 (by kernel_rfl) rfl #[] rfl (by (try simp only [List.map_toArray, List.map_cons, List.map_nil]); first | done | rfl | (simp only [List.length_drop, List.length_take]; rfl)) ?_; (with_reducible refine (gantlinelaw2_awake.calls k  false _ A4.out).mono ?_); rintro e w' ⟨rfl, ⟨nd, rfl⟩⟩; refine ⟨_, rfl, ?_⟩))
    go_ret
    exact ⟨by first | rfl | (simp; done) | (simp [*]; done), by repeat (first | exact Drawn0.refl _ | apply Drawn0.step)⟩

/-- THE ONE PURE STATEMENT of gantlinelaw2_GeomBack: yours. -/
def gantlinelaw2_GeomBack.Pure : Prop := ∀ (a0 : Int) (a1 : Int) (a2 : Int), (Lit.int .i64 a0).wf = true → (Lit.int .i64 a1).wf = true → (Lit.int .i64 a2).wf = true → ∃ k, gantlinelaw2_GeomBack.f k a0 a1 a2 = some true
theorem gantlinelaw2_GeomBack.walk (P : gantlinelaw2_GeomBack.Pure) (a0 : Int) (a1 : Int) (a2 : Int) (w : World) (w0 : (Lit.int .i64 a0).wf = true) (w1 : (Lit.int .i64 a1).wf = true) (w2 : (Lit.int .i64 a2).wf = true) :
    Calls Try.prog 5 #[.int .i64 a0, .int .i64 a1, .int .i64 a2] w fun e w' => e = .returned (.bool true) ∧ Below w.heap.size w w' := by
  obtain ⟨k, h⟩ := P a0 a1 a2 w0 w1 w2
  refine (gantlinelaw2_GeomBack.calls k a0 a1 a2 true w h).mono ?_
  rintro e w' ⟨rfl, hd⟩
  exact ⟨rfl, hd.below⟩

end Go.Proofs.Ytclblekgjhcgoaa.PGeomBack
