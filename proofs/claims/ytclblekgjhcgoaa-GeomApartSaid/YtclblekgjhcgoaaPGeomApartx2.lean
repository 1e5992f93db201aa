-- PRINTED BY print.sh 35421559b90ae4d0a3588c463048766b98c2df88dd9212a6774a882060cdf62d: not written by this session
import Derived.Test.YtclblekgjhcgoaaPGeomApartx0
import Derived.Test.YtclblekgjhcgoaaPGeomApartx1
namespace Go.Proofs.Ytclblekgjhcgoaa.PGeomApart
open Go.RowKit Go.Proofs.YtclblekgjhcgoaaW.PrintWords Go.Proofs.YtclblekgjhcgoaaW.PrintLast Go.Proofs.YtclblekgjhcgoaaW.PrintMore
attribute [local go_sem] max2_int min2_int max_two min_two max_three min_three max_four min_four   -- for this text's walks alone
set_option linter.unusedVariables false
set_option linter.unusedSimpArgs false

/-! ### gantlinelaw2_GeomApart: function 7 -/
def gantlinelaw2_GeomApart.j0 : Nat → Int → Int → Int → Int → Bool → Option (Bool)
  | 0, _, _, _, _, _ => none
  | k + 1, x2, x5, x13, x14, x45 => if x45 = true then (some true) else ((geom_Words.f x2).bind fun t125 => (if (wrap64 (x13 + t125)) ≤ x14 then (some true) else ((geom_Words.f x5).bind fun t126 => (some (decide ((wrap64 (x14 + t126)) ≤ x13))))))
def gantlinelaw2_GeomApart.f (k : Nat) (a0 : Int) (a1 : Int) (a2 : Int) (a3 : Int) (a4 : Int) (a5 : Int) : Option (Bool) := (gantlinelaw2_awake.f k).bind fun t122 => (if t122 = true then ((geom_Addr.f a0 a1 a2).bind fun t123 => ((geom_Addr.f a3 a4 a5).bind fun t124 => (if t123 = 0 then (gantlinelaw2_GeomApart.j0 k a2 a5 t123 t124 true) else (if t124 = 0 then (gantlinelaw2_GeomApart.j0 k a2 a5 t123 t124 true) else (if t123 = t124 then (gantlinelaw2_GeomApart.j0 k a2 a5 t123 t124 true) else (if a0 = a3 then (gantlinelaw2_GeomApart.j0 k a2 a5 t123 t124 (a2 != a5)) else (gantlinelaw2_GeomApart.j0 k a2 a5 t123 t124 false))))))) else (some false))
theorem gantlinelaw2_GeomApart.mono_l : ∀ k, (∀ y0 y1 y2 y3 y4, LeO (gantlinelaw2_GeomApart.j0 k y0 y1 y2 y3 y4) (gantlinelaw2_GeomApart.j0 (k + 1) y0 y1 y2 y3 y4))
  | 0 => fun _ _ _ _ _ r h => by simp [gantlinelaw2_GeomApart.j0] at h
  | k + 1 => by
    have ih0 := gantlinelaw2_GeomApart.mono_l k
    · intro y0 y1 y2 y3 y4
      unfold gantlinelaw2_GeomApart.j0
      repeat' first
      | (with_reducible exact ih0 _ _ _ _ _)
      | (with_reducible exact gantlinelaw2_awake.mono _)
      | (with_reducible exact LeO.refl _)
      | (with_reducible exact LeO.none _)
      | (with_reducible refine LeO.ite ?_ ?_)
      | (with_reducible refine LeO.bind ?_ (fun _ => ?_))
      | exact ih0 _ _ _ _ _
      | exact gantlinelaw2_awake.mono _
      | exact LeO.none _
      | refine LeO.ite ?_ ?_
      | refine LeO.bind ?_ (fun _ => ?_)
theorem gantlinelaw2_GeomApart.mono : ∀ a0 a1 a2 a3 a4 a5 k, LeO (gantlinelaw2_GeomApart.f k a0 a1 a2 a3 a4 a5) (gantlinelaw2_GeomApart.f (k + 1) a0 a1 a2 a3 a4 a5) := by
  intro a0 a1 a2 a3 a4 a5 k
  have ih0 := gantlinelaw2_GeomApart.mono_l k
  unfold gantlinelaw2_GeomApart.f
  repeat' first
      | (with_reducible exact ih0 _ _ _ _ _)
      | (with_reducible exact gantlinelaw2_awake.mono _)
      | (with_reducible exact LeO.refl _)
      | (with_reducible exact LeO.none _)
      | (with_reducible refine LeO.ite ?_ ?_)
      | (with_reducible refine LeO.bind ?_ (fun _ => ?_))
      | exact ih0 _ _ _ _ _
      | exact gantlinelaw2_awake.mono _
      | exact LeO.none _
      | refine LeO.ite ?_ ?_
      | refine LeO.bind ?_ (fun _ => ?_)
set_option maxHeartbeats 8000000 in
set_option maxRecDepth 100000 in
theorem gantlinelaw2_GeomApart.calls (k : Nat) (a0 : Int) (a1 : Int) (a2 : Int) (a3 : Int) (a4 : Int) (a5 : Int) (r : Bool) (w : World) (h : gantlinelaw2_GeomApart.f k a0 a1 a2 a3 a4 a5 = some r) :
    Calls Try.prog 7 #[.int .i64 a0, .int .i64 a1, .int .i64 a2, .int .i64 a3, .int .i64 a4, .int .i64 a5] w fun e w' => e = .returned (.bool r) ∧ Drawn0 w w' := by
  have H : ((gantlinelaw2_awake.f k).bind fun t122 => (if t122 = true then ((geom_Addr.f a0 a1 a2).bind fun t123 => ((geom_Addr.f a3 a4 a5).bind fun t124 => (if t123 = 0 then (gantlinelaw2_GeomApart.j0 k a2 a5 t123 t124 true) else (if t124 = 0 then (gantlinelaw2_GeomApart.j0 k a2 a5 t123 t124 true) else (if t123 = t124 then (gantlinelaw2_GeomApart.j0 k a2 a5 t123 t124 true) else (if a0 = a3 then (gantlinelaw2_GeomApart.j0 k a2 a5 t123 t124 (a2 != a5)) else (gantlinelaw2_GeomApart.j0 k a2 a5 t123 t124 false))))))) else (some false))) = some r := h
  clear h
  replace H := Option.bind_eq_some_iff.mp H
  obtain ⟨t122, A70, H⟩ := H
  replace H : (if t122 = true then ((geom_Addr.f a0 a1 a2).bind fun t123 => ((geom_Addr.f a3 a4 a5).bind fun t124 => (if t123 = 0 then (gantlinelaw2_GeomApart.j0 k a2 a5 t123 t124 true) else (if t124 = 0 then (gantlinelaw2_GeomApart.j0 k a2 a5 t123 t124 true) else (if t123 = t124 then (gantlinelaw2_GeomApart.j0 k a2 a5 t123 t124 true) else (if a0 = a3 then (gantlinelaw2_GeomApart.j0 k a2 a5 t123 t124 (a2 != a5)) else (gantlinelaw2_GeomApart.j0 k a2 a5 t123 t124 false))))))) else (some false)) = some r := H
  have A7 := Aside0.mk A70
  clear A70
  by_cases c8 : t122 = true
  · subst c8
    have H1 : ((geom_Addr.f a0 a1 a2).bind fun t123 => ((geom_Addr.f a3 a4 a5).bind fun t124 => (if t123 = 0 then (gantlinelaw2_GeomApart.j0 k a2 a5 t123 t124 true) else (if t124 = 0 then (gantlinelaw2_GeomApart.j0 k a2 a5 t123 t124 true) else (if t123 = t124 then (gantlinelaw2_GeomApart.j0 k a2 a5 t123 t124 true) else (if a0 = a3 then (gantlinelaw2_GeomApart.j0 k a2 a5 t123 t124 (a2 != a5)) else (gantlinelaw2_GeomApart.j0 k a2 a5 t123 t124 false))))))) = some r := by rw [if_pos rfl] at H; exact H
    clear H
    have H := H1
    clear H1
    replace H := Option.bind_eq_some_iff.mp H
    obtain ⟨t123, A90, H⟩ := H
    replace H : ((geom_Addr.f a3 a4 a5).bind fun t124 => (if t123 = 0 then (gantlinelaw2_GeomApart.j0 k a2 a5 t123 t124 true) else (if t124 = 0 then (gantlinelaw2_GeomApart.j0 k a2 a5 t123 t124 true) else (if t123 = t124 then (gantlinelaw2_GeomApart.j0 k a2 a5 t123 t124 true) else (if a0 = a3 then (gantlinelaw2_GeomApart.j0 k a2 a5 t123 t124 (a2 != a5)) else (gantlinelaw2_GeomApart.j0 k a2 a5 t123 t124 false)))))) = some r := H
    have A9 := Aside0.mk A90
    clear A90
    replace H := Option.bind_eq_some_iff.mp H
    obtain ⟨t124, A100, H⟩ := H
    replace H : (if t123 = 0 then (gantlinelaw2_GeomApart.j0 k a2 a5 t123 t124 true) else (if t124 = 0 then (gantlinelaw2_GeomApart.j0 k a2 a5 t123 t124 true) else (if t123 = t124 then (gantlinelaw2_GeomApart.j0 k a2 a5 t123 t124 true) else (if a0 = a3 then (gantlinelaw2_GeomApart.j0 k a2 a5 t123 t124 (a2 != a5)) else (gantlinelaw2_GeomApart.j0 k a2 a5 t123 t124 false))))) = some r := H
    have A10 := Aside0.mk A100
    clear A100
    have HC11 := Aside0.mk H
    clear H
    go_enter Try.func7, Try.ntmps7
    go_upto_region 5 with (first | ((with_reducible refine gate_callee (f := 8) rfl ?_); refine goesL_ (some 15) rfl rfl Try.func8 (by kernel_rfl) rfl #[] rfl (by (try simp only [List.map_toArray, List.map_cons, List.map_nil]); first | done | rfl | (simp only [List.length_drop, List.length_take]; rfl)) ?_; (with_reducible refine (gantlinelaw2_awake.calls k  true _ A7.out).mono ?_); rintro e w' ⟨rfl, ⟨nd, rfl⟩⟩; refine ⟨_, rfl, ?_⟩) | ((with_reducible refine gate_callee (f := 14) rfl ?_); refine goesL_ (some 20) rfl rfl Try.func14 (by kernel_rfl) rfl #[.int .i64 a0, .int .i64 a1, .int .i64 a2] rfl (by (try simp only [List.map_toArray, List.map_cons, List.map_nil]); first | done | rfl | (simp only [List.length_drop, List.length_take]; rfl)) ?_; (with_reducible refine (geom_Addr.calls a0 a1 a2 t123 _ A9.out).mono ?_); rintro e w' ⟨rfl, ⟨nd, rfl⟩⟩; refine ⟨_, rfl, ?_⟩) | ((with_reducible refine gate_callee (f := 14) rfl ?_); refine goesL_ (some 24) rfl rfl Try.func14 (by kernel_rfl) rfl #[.int .i64 a3, .int .i64 a4, .int .i64 a5] rfl (by (try simp only [List.map_toArray, List.map_cons, List.map_nil]); first | done | rfl | (simp only [List.length_drop, List.length_take]; rfl)) ?_; (with_reducible refine (geom_Addr.calls a3 a4 a5 t124 _ A10.out).mono ?_); rintro e w' ⟨rfl, ⟨nd, rfl⟩⟩; refine ⟨_, rfl, ?_⟩))
    (try simp only [Act.put, List.setIfInBounds_toArray, List.set_cons_zero, List.set_cons_succ])
    go_cut [45] (fun v45 wc => ∃ (kq : Nat) (x45_10 : Bool), v45 = .bool x45_10 ∧ Aside0 (gantlinelaw2_GeomApart.j0 kq a2 a5 t123 t124 x45_10 = some r) ∧ Aside0 (kq ≤ k) ∧ Drawn0 w wc)
    case first =>
      have H := HC11.out
      clear HC11
      by_cases c12 : t123 = 0
      · rw [if_pos c12] at H
        have c12b0 : (t123 == 0) = true := beq_iff_eq.mpr c12
        have c12b1 : (t123 != 0) = false := bne_eq_false_iff_eq.mpr c12
        clear c12
        (first | rw [c12b0] | (simp only [i64_w, i32_w]; rw [c12b0]) | skip)
        have H' := Aside0.mk H
        clear H
        go_wp2
        go_meet
        case rel => exact ⟨_, (true), (by first | rfl | (simp; done) | (simp [*]; done)), H', ⟨by first | omega | exact Nat.le_refl _⟩, by repeat (first | exact Drawn0.refl _ | apply Drawn0.step)⟩
      · rw [if_neg c12] at H
        have c12b0 : (t123 == 0) = false := beq_eq_false_iff_ne.mpr c12
        have c12b1 : (t123 != 0) = true := bne_iff_ne.mpr c12
        (first | rw [c12b0] | (simp only [i64_w, i32_w]; rw [c12b0]) | skip)
        by_cases c13 : t124 = 0
        · rw [if_pos c13] at H
          have c13b0 : (t124 == 0) = true := beq_iff_eq.mpr c13
          have c13b1 : (t124 != 0) = false := bne_eq_false_iff_eq.mpr c13
          clear c13
          have H' := Aside0.mk H
          clear H
          go_wp2
          go_meet
          case rel => exact ⟨_, (true), (by first | rfl | (simp; done) | (simp [*]; done)), H', ⟨by first | omega | exact Nat.le_refl _⟩, by repeat (first | exact Drawn0.refl _ | apply Drawn0.step)⟩
        · rw [if_neg c13] at H
          have c13b0 : (t124 == 0) = false := beq_eq_false_iff_ne.mpr c13
          have c13b1 : (t124 != 0) = true := bne_iff_ne.mpr c13
          by_cases c14 : t123 = t124
          · rw [if_pos c14] at H
            have c14b0 : (t123 == t124) = true := beq_iff_eq.mpr c14
            have c14b1 : (t123 != t124) = false := bne_eq_false_iff_eq.mpr c14
            clear c14
            have H' := Aside0.mk H
            clear H
            go_wp2
            go_meet
            case rel => exact ⟨_, (true), (by first | rfl | (simp; done) | (simp [*]; done)), H', ⟨by first | omega | exact Nat.le_refl _⟩, by repeat (first | exact Drawn0.refl _ | apply Drawn0.step)⟩
          · rw [if_neg c14] at H
            have c14b0 : (t123 == t124) = false := beq_eq_false_iff_ne.mpr c14
            have c14b1 : (t123 != t124) = true := bne_iff_ne.mpr c14
            by_cases c15 : a0 = a3
            · rw [if_pos c15] at H
              have c15b0 : (a0 == a3) = true := beq_iff_eq.mpr c15
              have c15b1 : (a0 != a3) = false := bne_eq_false_iff_eq.mpr c15
              clear c15
              have H' := Aside0.mk H
              clear H
              go_wp2
              go_meet
              case rel => exact ⟨_, ((a2 != a5)), (by first | rfl | (simp; done) | (simp [*]; done)), H', ⟨by first | omega | exact Nat.le_refl _⟩, by repeat (first | exact Drawn0.refl _ | apply Drawn0.step)⟩
            · rw [if_neg c15] at H
              have c15b0 : (a0 == a3) = false := beq_eq_false_iff_ne.mpr c15
              have c15b1 : (a0 != a3) = true := bne_iff_ne.mpr c15
              have H' := Aside0.mk H
              clear H
              go_wp2
              go_meet
              case rel => exact ⟨_, (false), (by first | rfl | (simp; done) | (simp [*]; done)), H', ⟨by first | omega | exact Nat.le_refl _⟩, by repeat (first | exact Drawn0.refl _ | apply Drawn0.step)⟩
    case rest =>
      clear HC11
      try clear c1
      try clear p2
      try clear c7
      try clear c8
      try clear c12
      try clear c12b0
      try clear c12b1
      try clear c13
      try clear c13b0
      try clear c13b1
      try clear c14
      try clear c14b0
      try clear c14b1
      try clear c15
      try clear c15b0
      try clear c15b1
      obtain ⟨kq, x45_10, rfl, HA, HJ10, ⟨mc10, rfl⟩⟩ := hcut
      cases kq with
      | zero => exact absurd HA.out (by simp [gantlinelaw2_GeomApart.j0])
      | succ kj10 =>
        have H := HA.out
        clear HA
        simp only [gantlinelaw2_GeomApart.j0] at H
        by_cases c16 : x45_10 = true
        · subst c16
          have H1 : (some true) = some r := by rw [if_pos rfl] at H; exact H
          clear H
          have H := H1
          clear H1
          obtain rfl := Option.some.inj H
          go_wp2
          go_ret
          exact ⟨by first | rfl | (simp; done) | (simp [*]; done), by repeat (first | exact Drawn0.refl _ | apply Drawn0.step)⟩
        · replace c16 := Bool.eq_false_iff.mpr c16
          subst c16
          have H1 : ((geom_Words.f a2).bind fun t125 => (if (wrap64 (t123 + t125)) ≤ t124 then (some true) else ((geom_Words.f a5).bind fun t126 => (some (decide ((wrap64 (t124 + t126)) ≤ t123)))))) = some r := by rw [if_neg (show ¬ (false = true) by decide)] at H; exact H
          clear H
          have H := H1
          clear H1
          replace H := Option.bind_eq_some_iff.mp H
          obtain ⟨t125, A170, H⟩ := H
          replace H : (if (wrap64 (t123 + t125)) ≤ t124 then (some true) else ((geom_Words.f a5).bind fun t126 => (some (decide ((wrap64 (t124 + t126)) ≤ t123))))) = some r := H
          have A17 := Aside0.mk A170
          clear A170
          by_cases c18 : (wrap64 (t123 + t125)) ≤ t124
          · rw [if_pos c18] at H
            have c18b0 : decide ((wrap64 (t123 + t125)) ≤ t124) = true := decide_eq_true c18
            clear c18
            obtain rfl := Option.some.inj H
            go_wp2_with (first | ((with_reducible refine gate_callee (f := 11) rfl ?_); refine goesL_ (some 48) rfl rfl Try.func11 (by kernel_rfl) rfl #[.int .i64 a2] rfl (by (try simp only [List.map_toArray, List.map_cons, List.map_nil]); first | done | rfl | (simp only [List.length_drop, List.length_take]; rfl)) ?_; (with_reducible refine (geom_Words.calls a2 t125 _ A17.out).mono ?_); rintro e w' ⟨rfl, ⟨nd, rfl⟩⟩; refine ⟨_, rfl, ?_⟩))
            go_ret
            exact ⟨by first | rfl | (simp; done) | (simp [*]; done), by repeat (first | exact Drawn0.refl _ | apply Drawn0.step)⟩
          · rw [if_neg c18] at H
            have c18b0 : decide ((wrap64 (t123 + t125)) ≤ t124) = false := decide_eq_false c18
            clear c18
            replace H := Option.bind_eq_some_iff.mp H
            obtain ⟨t126, A190, H⟩ := H
            replace H : (some (decide ((wrap64 (t124 + t126)) ≤ t123))) = some r := H
            have A19 := Aside0.mk A190
            clear A190
            obtain rfl := Option.some.inj H
            go_wp2_with (first | ((with_reducible refine gate_callee (f := 11) rfl ?_); refine goesL_ (some 48) rfl rfl Try.func11 (by kernel_rfl) rfl #[.int .i64 a2] rfl (by (try simp only [List.map_toArray, List.map_cons, List.map_nil]); first | done | rfl | (simp only [List.length_drop, List.length_take]; rfl)) ?_; (with_reducible refine (geom_Words.calls a2 t125 _ A17.out).mono ?_); rintro e w' ⟨rfl, ⟨nd, rfl⟩⟩; refine ⟨_, rfl, ?_⟩) | (go_at_call 11; (with_reducible refine (geom_Words.calls a5 t126 _ A19.out).mono ?_); rintro e w' ⟨rfl, ⟨nd, rfl⟩⟩))
            go_ret
            exact ⟨by first | rfl | (simp; done) | (simp [*]; done), by repeat (first | exact Drawn0.refl _ | apply Drawn0.step)⟩
  · replace c8 := Bool.eq_false_iff.mpr c8
    subst c8
    have H1 : (some false) = some r := by rw [if_neg (show ¬ (false = true) by decide)] at H; exact H
    clear H
    have H := H1
    clear H1
    obtain rfl := Option.some.inj H
    go_enter Try.func7, Try.ntmps7
    go_wp2_with (first | ((with_reducible refine gate_callee (f := 8) rfl ?_); refine goesL_ (some 15) rfl rfl Try.func8 (by kernel_rfl) rfl #[] rfl (by (try simp only [List.map_toArray, List.map_cons, List.map_nil]); first | done | rfl | (simp only [List.length_drop, List.length_take]; rfl)) ?_; (with_reducible refine (gantlinelaw2_awake.calls k  false _ A7.out).mono ?_); rintro e w' ⟨rfl, ⟨nd, rfl⟩⟩; refine ⟨_, rfl, ?_⟩))
    go_ret
    exact ⟨by first | rfl | (simp; done) | (simp [*]; done), by repeat (first | exact Drawn0.refl _ | apply Drawn0.step)⟩

/-- THE ONE PURE STATEMENT of gantlinelaw2_GeomApart: yours. -/
def gantlinelaw2_GeomApart.Pure : Prop := ∀ (a0 : Int) (a1 : Int) (a2 : Int) (a3 : Int) (a4 : Int) (a5 : Int), (Lit.int .i64 a0).wf = true → (Lit.int .i64 a1).wf = true → (Lit.int .i64 a2).wf = true → (Lit.int .i64 a3).wf = true → (Lit.int .i64 a4).wf = true → (Lit.int .i64 a5).wf = true → ∃ k, gantlinelaw2_GeomApart.f k a0 a1 a2 a3 a4 a5 = some true
theorem gantlinelaw2_GeomApart.walk (P : gantlinelaw2_GeomApart.Pure) (a0 : Int) (a1 : Int) (a2 : Int) (a3 : Int) (a4 : Int) (a5 : Int) (w : World) (w0 : (Lit.int .i64 a0).wf = true) (w1 : (Lit.int .i64 a1).wf = true) (w2 : (Lit.int .i64 a2).wf = true) (w3 : (Lit.int .i64 a3).wf = true) (w4 : (Lit.int .i64 a4).wf = true) (w5 : (Lit.int .i64 a5).wf = true) :
    Calls Try.prog 7 #[.int .i64 a0, .int .i64 a1, .int .i64 a2, .int .i64 a3, .int .i64 a4, .int .i64 a5] w fun e w' => e = .returned (.bool true) ∧ Below w.heap.size w w' := by
  obtain ⟨k, h⟩ := P a0 a1 a2 a3 a4 a5 w0 w1 w2 w3 w4 w5
  refine (gantlinelaw2_GeomApart.calls k a0 a1 a2 a3 a4 a5 true w h).mono ?_
  rintro e w' ⟨rfl, hd⟩
  exact ⟨rfl, hd.below⟩

end Go.Proofs.Ytclblekgjhcgoaa.PGeomApart
