-- PRINTED BY print.sh 35421559b90ae4d0a3588c463048766b98c2df88dd9212a6774a882060cdf62d: not written by this session
import Derived.Test.YtclblekgjhcgoaaPGeomLeastx0
import Derived.Test.YtclblekgjhcgoaaPGeomLeastx1
namespace Go.Proofs.Ytclblekgjhcgoaa.PGeomLeast
open Go.RowKit Go.Proofs.YtclblekgjhcgoaaW.PrintWords Go.Proofs.YtclblekgjhcgoaaW.PrintLast Go.Proofs.YtclblekgjhcgoaaW.PrintMore
attribute [local go_sem] max2_int min2_int max_two min_two max_three min_three max_four min_four   -- for this text's walks alone
set_option linter.unusedVariables false
set_option linter.unusedSimpArgs false

/-! ### gantlinelaw2_GeomLeast: function 6 -/
def gantlinelaw2_GeomLeast.j0 : Nat → Int → Int → Bool → Option (Bool)
  | 0, _, _, _ => none
  | k + 1, x0, x3, x13 => if x13 = true then (some (x3 == (-1))) else (if x3 ≥ 0 then ((geom_Words.f x3).bind fun t124 => (if t124 ≥ x0 then (if x3 = 0 then (some true) else ((geom_Words.f (wrap64 (x3 - 1))).bind fun t125 => (some (decide (t125 < x0))))) else (some false))) else (some false))
def gantlinelaw2_GeomLeast.f (k : Nat) (a0 : Int) : Option (Bool) := (gantlinelaw2_awake.f k).bind fun t122 => (if t122 = true then ((geom_Class.f k a0).bind fun t123 => (if a0 < 1 then (gantlinelaw2_GeomLeast.j0 k a0 t123 true) else (gantlinelaw2_GeomLeast.j0 k a0 t123 (decide (a0 > 64))))) else (some false))
theorem gantlinelaw2_GeomLeast.mono_l : ∀ k, (∀ y0 y1 y2, LeO (gantlinelaw2_GeomLeast.j0 k y0 y1 y2) (gantlinelaw2_GeomLeast.j0 (k + 1) y0 y1 y2))
  | 0 => fun _ _ _ r h => by simp [gantlinelaw2_GeomLeast.j0] at h
  | k + 1 => by
    have ih0 := gantlinelaw2_GeomLeast.mono_l k
    · intro y0 y1 y2
      unfold gantlinelaw2_GeomLeast.j0
      repeat' first
      | (with_reducible exact ih0 _ _ _)
      | (with_reducible exact gantlinelaw2_awake.mono _)
      | (with_reducible exact geom_Class.mono _ _)
      | (with_reducible exact LeO.refl _)
      | (with_reducible exact LeO.none _)
      | (with_reducible refine LeO.ite ?_ ?_)
      | (with_reducible refine LeO.bind ?_ (fun _ => ?_))
      | exact ih0 _ _ _
      | exact gantlinelaw2_awake.mono _
      | exact geom_Class.mono _ _
      | exact LeO.none _
      | refine LeO.ite ?_ ?_
      | refine LeO.bind ?_ (fun _ => ?_)
theorem gantlinelaw2_GeomLeast.mono : ∀ a0 k, LeO (gantlinelaw2_GeomLeast.f k a0) (gantlinelaw2_GeomLeast.f (k + 1) a0) := by
  intro a0 k
  have ih0 := gantlinelaw2_GeomLeast.mono_l k
  unfold gantlinelaw2_GeomLeast.f
  repeat' first
      | (with_reducible exact ih0 _ _ _)
      | (with_reducible exact gantlinelaw2_awake.mono _)
      | (with_reducible exact geom_Class.mono _ _)
      | (with_reducible exact LeO.refl _)
      | (with_reducible exact LeO.none _)
      | (with_reducible refine LeO.ite ?_ ?_)
      | (with_reducible refine LeO.bind ?_ (fun _ => ?_))
      | exact ih0 _ _ _
      | exact gantlinelaw2_awake.mono _
      | exact geom_Class.mono _ _
      | exact LeO.none _
      | refine LeO.ite ?_ ?_
      | refine LeO.bind ?_ (fun _ => ?_)
set_option maxHeartbeats 8000000 in
set_option maxRecDepth 100000 in
theorem gantlinelaw2_GeomLeast.calls (k : Nat) (a0 : Int) (r : Bool) (w : World) (h : gantlinelaw2_GeomLeast.f k a0 = some r) :
    Calls Try.prog 6 #[.int .i64 a0] w fun e w' => e = .returned (.bool r) ∧ Drawn0 w w' := by
  have H : ((gantlinelaw2_awake.f k).bind fun t122 => (if t122 = true then ((geom_Class.f k a0).bind fun t123 => (if a0 < 1 then (gantlinelaw2_GeomLeast.j0 k a0 t123 true) else (gantlinelaw2_GeomLeast.j0 k a0 t123 (decide (a0 > 64))))) else (some false))) = some r := h
  clear h
  replace H := Option.bind_eq_some_iff.mp H
  obtain ⟨t122, A20, H⟩ := H
  replace H : (if t122 = true then ((geom_Class.f k a0).bind fun t123 => (if a0 < 1 then (gantlinelaw2_GeomLeast.j0 k a0 t123 true) else (gantlinelaw2_GeomLeast.j0 k a0 t123 (decide (a0 > 64))))) else (some false)) = some r := H
  have A2 := Aside0.mk A20
  clear A20
  by_cases c3 : t122 = true
  · subst c3
    have H1 : ((geom_Class.f k a0).bind fun t123 => (if a0 < 1 then (gantlinelaw2_GeomLeast.j0 k a0 t123 true) else (gantlinelaw2_GeomLeast.j0 k a0 t123 (decide (a0 > 64))))) = some r := by rw [if_pos rfl] at H; exact H
    clear H
    have H := H1
    clear H1
    replace H := Option.bind_eq_some_iff.mp H
    obtain ⟨t123, A40, H⟩ := H
    replace H : (if a0 < 1 then (gantlinelaw2_GeomLeast.j0 k a0 t123 true) else (gantlinelaw2_GeomLeast.j0 k a0 t123 (decide (a0 > 64)))) = some r := H
    have A4 := Aside0.mk A40
    clear A40
    have HC5 := Aside0.mk H
    clear H
    go_enter Try.func6, Try.ntmps6
    go_upto_region 4 with (first | ((with_reducible refine gate_callee (f := 8) rfl ?_); refine goesL_ (some 4) rfl rfl Try.func8 (by kernel_rfl) rfl #[] rfl (by (try simp only [List.map_toArray, List.map_cons, List.map_nil]); first | done | rfl | (simp only [List.length_drop, List.length_take]; rfl)) ?_; (with_reducible refine (gantlinelaw2_awake.calls k  true _ A2.out).mono ?_); rintro e w' ⟨rfl, ⟨nd, rfl⟩⟩; refine ⟨_, rfl, ?_⟩) | ((with_reducible refine gate_callee (f := 10) rfl ?_); refine goesL_ (some 7) rfl rfl Try.func10 (by kernel_rfl) rfl #[.int .i64 a0] rfl (by (try simp only [List.map_toArray, List.map_cons, List.map_nil]); first | done | rfl | (simp only [List.length_drop, List.length_take]; rfl)) ?_; (with_reducible refine (geom_Class.calls k a0 t123 _ A4.out).mono ?_); rintro e w' ⟨rfl, ⟨nd, rfl⟩⟩; refine ⟨_, rfl, ?_⟩))
    (try simp only [Act.put, List.setIfInBounds_toArray, List.set_cons_zero, List.set_cons_succ])
    go_cut [13] (fun v13 wc => ∃ (kq : Nat) (x13_4 : Bool), v13 = .bool x13_4 ∧ Aside0 (gantlinelaw2_GeomLeast.j0 kq a0 t123 x13_4 = some r) ∧ Aside0 (kq ≤ k) ∧ Drawn0 w wc)
    case first =>
      have H := HC5.out
      clear HC5
      by_cases c6 : a0 < 1
      · rw [if_pos c6] at H
        have c6b0 : decide (a0 < 1) = true := decide_eq_true c6
        clear c6
        (first | rw [c6b0] | (simp only [i64_w, i32_w]; rw [c6b0]) | skip)
        have H' := Aside0.mk H
        clear H
        go_wp2
        go_meet
        case rel => exact ⟨_, (true), (by first | rfl | (simp; done) | (simp [*]; done)), H', ⟨by first | omega | exact Nat.le_refl _⟩, by repeat (first | exact Drawn0.refl _ | apply Drawn0.step)⟩
      · rw [if_neg c6] at H
        have c6b0 : decide (a0 < 1) = false := decide_eq_false c6
        clear c6
        (first | rw [c6b0] | (simp only [i64_w, i32_w]; rw [c6b0]) | skip)
        have H' := Aside0.mk H
        clear H
        go_wp2
        go_meet
        case rel => exact ⟨_, (decide (a0 > 64)), (by first | rfl | (simp; done) | (simp [*]; done)), H', ⟨by first | omega | exact Nat.le_refl _⟩, by repeat (first | exact Drawn0.refl _ | apply Drawn0.step)⟩
    case rest =>
      clear HC5
      try clear c1
      try clear p2
      try clear c3
      try clear c6
      try clear c6b0
      obtain ⟨kq, x13_4, rfl, HA, HJ4, ⟨mc4, rfl⟩⟩ := hcut
      cases kq with
      | zero => exact absurd HA.out (by simp [gantlinelaw2_GeomLeast.j0])
      | succ kj4 =>
        have H := HA.out
        clear HA
        simp only [gantlinelaw2_GeomLeast.j0] at H
        by_cases c7 : x13_4 = true
        · subst c7
          have H1 : (some (t123 == (-1))) = some r := by rw [if_pos rfl] at H; exact H
          clear H
          have H := H1
          clear H1
          obtain rfl := Option.some.inj H
          go_wp2
          go_ret
          exact ⟨by first | rfl | (simp; done) | (simp [*]; done), by repeat (first | exact Drawn0.refl _ | apply Drawn0.step)⟩
        · replace c7 := Bool.eq_false_iff.mpr c7
          subst c7
          have H1 : (if t123 ≥ 0 then ((geom_Words.f t123).bind fun t124 => (if t124 ≥ a0 then (if t123 = 0 then (some true) else ((geom_Words.f (wrap64 (t123 - 1))).bind fun t125 => (some (decide (t125 < a0))))) else (some false))) else (some false)) = some r := by rw [if_neg (show ¬ (false = true) by decide)] at H; exact H
          clear H
          have H := H1
          clear H1
          by_cases c8 : t123 ≥ 0
          · rw [if_pos c8] at H
            have c8b0 : decide (0 ≤ t123) = true := decide_eq_true c8
            clear c8
            replace H := Option.bind_eq_some_iff.mp H
            obtain ⟨t124, A90, H⟩ := H
            replace H : (if t124 ≥ a0 then (if t123 = 0 then (some true) else ((geom_Words.f (wrap64 (t123 - 1))).bind fun t125 => (some (decide (t125 < a0))))) else (some false)) = some r := H
            have A9 := Aside0.mk A90
            clear A90
            by_cases c10 : t124 ≥ a0
            · rw [if_pos c10] at H
              have c10b0 : decide (a0 ≤ t124) = true := decide_eq_true c10
              clear c10
              by_cases c11 : t123 = 0
              · rw [if_pos c11] at H
                have c11b0 : (t123 == 0) = true := beq_iff_eq.mpr c11
                have c11b1 : (t123 != 0) = false := bne_eq_false_iff_eq.mpr c11
                clear c11
                obtain rfl := Option.some.inj H
                go_wp2_with (first | (go_at_call 11; (with_reducible refine (geom_Words.calls t123 t124 _ A9.out).mono ?_); rintro e w' ⟨rfl, ⟨nd, rfl⟩⟩))
                go_ret
                exact ⟨by first | rfl | (simp; done) | (simp [*]; done), by repeat (first | exact Drawn0.refl _ | apply Drawn0.step)⟩
              · rw [if_neg c11] at H
                have c11b0 : (t123 == 0) = false := beq_eq_false_iff_ne.mpr c11
                have c11b1 : (t123 != 0) = true := bne_iff_ne.mpr c11
                replace H := Option.bind_eq_some_iff.mp H
                obtain ⟨t125, A120, H⟩ := H
                replace H : (some (decide (t125 < a0))) = some r := H
                have A12 := Aside0.mk A120
                clear A120
                obtain rfl := Option.some.inj H
                go_wp2_with (first | (go_at_call 11; (with_reducible refine (geom_Words.calls t123 t124 _ A9.out).mono ?_); rintro e w' ⟨rfl, ⟨nd, rfl⟩⟩) | (go_at_call 11; (with_reducible refine (geom_Words.calls (wrap64 (t123 - 1)) t125 _ A12.out).mono ?_); rintro e w' ⟨rfl, ⟨nd, rfl⟩⟩))
                go_ret
                exact ⟨by first | rfl | (simp; done) | (simp [*]; done), by repeat (first | exact Drawn0.refl _ | apply Drawn0.step)⟩
            · rw [if_neg c10] at H
              have c10b0 : decide (a0 ≤ t124) = false := decide_eq_false c10
              clear c10
              obtain rfl := Option.some.inj H
              go_wp2_with (first | (go_at_call 11; (with_reducible refine (geom_Words.calls t123 t124 _ A9.out).mono ?_); rintro e w' ⟨rfl, ⟨nd, rfl⟩⟩))
              go_ret
              exact ⟨by first | rfl | (simp; done) | (simp [*]; done), by repeat (first | exact Drawn0.refl _ | apply Drawn0.step)⟩
          · rw [if_neg c8] at H
            have c8b0 : decide (0 ≤ t123) = false := decide_eq_false c8
            clear c8
            obtain rfl := Option.some.inj H
            go_wp2
            go_ret
            exact ⟨by first | rfl | (simp; done) | (simp [*]; done), by repeat (first | exact Drawn0.refl _ | apply Drawn0.step)⟩
  · replace c3 := Bool.eq_false_iff.mpr c3
    subst c3
    have H1 : (some false) = some r := by rw [if_neg (show ¬ (false = true) by decide)] at H; exact H
    clear H
    have H := H1
    clear H1
    obtain rfl := Option.some.inj H
    go_enter Try.func6, Try.ntmps6
    go_wp2_with (first | ((with_reducible refine gate_callee (f := 8) rfl ?_); refine goesL_ (some 4) rfl rfl Try.func8 (by kernel_rfl) rfl #[] rfl (by (try simp only [List.map_toArray, List.map_cons, List.map_nil]); first | done | rfl | (simp only [List.length_drop, List.length_take]; rfl)) ?_; (with_reducible refine (gantlinelaw2_awake.calls k  false _ A2.out).mono ?_); rintro e w' ⟨rfl, ⟨nd, rfl⟩⟩; refine ⟨_, rfl, ?_⟩))
    go_ret
    exact ⟨by first | rfl | (simp; done) | (simp [*]; done), by repeat (first | exact Drawn0.refl _ | apply Drawn0.step)⟩

/-- THE ONE PURE STATEMENT of gantlinelaw2_GeomLeast: yours. -/
def gantlinelaw2_GeomLeast.Pure : Prop := ∀ (a0 : Int), (Lit.int .i64 a0).wf = true → ∃ k, gantlinelaw2_GeomLeast.f k a0 = some true
theorem gantlinelaw2_GeomLeast.walk (P : gantlinelaw2_GeomLeast.Pure) (a0 : Int) (w : World) (w0 : (Lit.int .i64 a0).wf = true) :
    Calls Try.prog 6 #[.int .i64 a0] w fun e w' => e = .returned (.bool true) ∧ Below w.heap.size w w' := by
  obtain ⟨k, h⟩ := P a0 w0
  refine (gantlinelaw2_GeomLeast.calls k a0 true w h).mono ?_
  rintro e w' ⟨rfl, hd⟩
  exact ⟨rfl, hd.below⟩

end Go.Proofs.Ytclblekgjhcgoaa.PGeomLeast
