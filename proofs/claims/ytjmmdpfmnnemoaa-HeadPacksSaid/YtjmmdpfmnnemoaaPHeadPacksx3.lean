import Derived.Test.YtjmmdpfmnnemoaaAwake
import Derived.Test.YtjmmdpfmnnemoaaPHeadPacksx0
namespace Go.Proofs.Ytjmmdpfmnnemoaa.PHeadPacks
open Go.RowKit Go.Proofs.YtjmmdpfmnnemoaaW.PrintWords Go.Proofs.YtjmmdpfmnnemoaaW.PrintLast Go.Proofs.YtjmmdpfmnnemoaaW.PrintMore
attribute [local go_sem] max2_int min2_int max_two min_two max_three min_three max_four min_four   -- for this text's walks alone
set_option linter.unusedVariables false
set_option linter.unusedSimpArgs false

/-! ### head_Shape_Holds: function 20 -/
mutual
def head_Shape_Holds.j0 : Nat → Int → Bool → Int → Int → Int → Option (Bool)
  | 0, _, _, _, _, _ => none
  | k + 1, x1, x18, x119000, x119001, x119002 => if x18 = true then (some false) else (if x119000 = 0 then (head_Shape_Holds.j1 k x1 x119000 (x119000 == 0) x119000 x119001 x119002) else (head_Shape_Holds.j1 k x1 x119000 (x119000 == 2) x119000 x119001 x119002))
def head_Shape_Holds.j1 : Nat → Int → Int → Bool → Int → Int → Int → Option (Bool)
  | 0, _, _, _, _, _, _ => none
  | k + 1, x1, x20, x21, x119000, x119001, x119002 => if x21 = true then (if 0 ≤ (IntKind.u64.wrap (x1)) then (some ((Go.bits .and .u64 (shr .u64 x119002 (IntKind.u64.wrap (x1))) 1) == 1)) else (none)) else (if x20 = 1 then (some ((Go.bits .and .u64 x119002 1) == 1)) else (if x20 = 3 then (if (Go.bits .and .u64 x119002 1) = 1 then (some (decide (x1 ≥ 4))) else (some false)) else (some false)))
end
def head_Shape_Holds.f (k : Nat) (a0_0 : Int) (a0_1 : Int) (a0_2 : Int) (a1 : Int) (a2 : Int) : Option (Bool) := if a1 < 0 then (head_Shape_Holds.j0 k a1 true a0_0 a0_1 a0_2) else (if a2 < 2 then (head_Shape_Holds.j0 k a1 true a0_0 a0_1 a0_2) else (head_Shape_Holds.j0 k a1 (decide (a1 > (wrap64 (a2 - 2)))) a0_0 a0_1 a0_2))
theorem head_Shape_Holds.mono_l : ∀ k, (∀ y0 y1 y2 y3 y4, LeO (head_Shape_Holds.j0 k y0 y1 y2 y3 y4) (head_Shape_Holds.j0 (k + 1) y0 y1 y2 y3 y4)) ∧ (∀ y0 y1 y2 y3 y4 y5, LeO (head_Shape_Holds.j1 k y0 y1 y2 y3 y4 y5) (head_Shape_Holds.j1 (k + 1) y0 y1 y2 y3 y4 y5))
  | 0 => ⟨fun _ _ _ _ _ r h => by simp [head_Shape_Holds.j0] at h, fun _ _ _ _ _ _ r h => by simp [head_Shape_Holds.j1] at h⟩
  | k + 1 => by
    obtain ⟨ih0, ih1⟩ := head_Shape_Holds.mono_l k
    refine ⟨?_, ?_⟩
    · intro y0 y1 y2 y3 y4
      unfold head_Shape_Holds.j0
      repeat' first
      | (with_reducible exact ih0 _ _ _ _ _)
      | (with_reducible exact ih1 _ _ _ _ _ _)
      | (with_reducible exact LeO.refl _)
      | (with_reducible exact LeO.none _)
      | (with_reducible refine LeO.ite ?_ ?_)
      | (with_reducible refine LeO.bind ?_ (fun _ => ?_))
      | exact ih0 _ _ _ _ _
      | exact ih1 _ _ _ _ _ _
      | exact LeO.none _
      | refine LeO.ite ?_ ?_
      | refine LeO.bind ?_ (fun _ => ?_)
    · intro y0 y1 y2 y3 y4 y5
      unfold head_Shape_Holds.j1
      repeat' first
      | (with_reducible exact ih0 _ _ _ _ _)
      | (with_reducible exact ih1 _ _ _ _ _ _)
      | (with_reducible exact LeO.refl _)
      | (with_reducible exact LeO.none _)
      | (with_reducible refine LeO.ite ?_ ?_)
      | (with_reducible refine LeO.bind ?_ (fun _ => ?_))
      | exact ih0 _ _ _ _ _
      | exact ih1 _ _ _ _ _ _
      | exact LeO.none _
      | refine LeO.ite ?_ ?_
      | refine LeO.bind ?_ (fun _ => ?_)
theorem head_Shape_Holds.mono : ∀ a0 a1 a2 a3 a4 k, LeO (head_Shape_Holds.f k a0 a1 a2 a3 a4) (head_Shape_Holds.f (k + 1) a0 a1 a2 a3 a4) := by
  intro a0 a1 a2 a3 a4 k
  obtain ⟨ih0, ih1⟩ := head_Shape_Holds.mono_l k
  unfold head_Shape_Holds.f
  repeat' first
      | (with_reducible exact ih0 _ _ _ _ _)
      | (with_reducible exact ih1 _ _ _ _ _ _)
      | (with_reducible exact LeO.refl _)
      | (with_reducible exact LeO.none _)
      | (with_reducible refine LeO.ite ?_ ?_)
      | (with_reducible refine LeO.bind ?_ (fun _ => ?_))
      | exact ih0 _ _ _ _ _
      | exact ih1 _ _ _ _ _ _
      | exact LeO.none _
      | refine LeO.ite ?_ ?_
      | refine LeO.bind ?_ (fun _ => ?_)
set_option maxHeartbeats 8000000 in
set_option maxRecDepth 100000 in
theorem head_Shape_Holds.calls (k : Nat) (a0_0 : Int) (a0_1 : Int) (a0_2 : Int) (a1 : Int) (a2 : Int) (r : Bool) (w : World) (h : head_Shape_Holds.f k a0_0 a0_1 a0_2 a1 a2 = some r) :
    Calls Try.prog 20 #[.agg #[.int .i64 a0_0, .int .i64 a0_1, .int .u64 a0_2], .int .i64 a1, .int .i64 a2] w fun e w' => e = .returned (.bool r) ∧ Below w.heap.size w w' := by
  have hu32 := Try.underlying32
  have HB := Aside0.mk (Below.refl w.heap.size w)
  have H : (if a1 < 0 then (head_Shape_Holds.j0 k a1 true a0_0 a0_1 a0_2) else (if a2 < 2 then (head_Shape_Holds.j0 k a1 true a0_0 a0_1 a0_2) else (head_Shape_Holds.j0 k a1 (decide (a1 > (wrap64 (a2 - 2)))) a0_0 a0_1 a0_2))) = some r := h
  clear h
  have HC4 := Aside0.mk H
  clear H
  go_enter Try.func20, Try.ntmps20
  go_upto_region 1 with (first | ((with_reducible refine gate_dst (N := 3) rfl ?_); refine box_event ?hg (N := 3) ?hd (cs := #[.int .i64 a0_0, .int .i64 a0_1, .int .u64 a0_2]) (t := 32) ?hr ?_; (case hd => rfl); (case hg => rfl); (case hr => first | (go_simp; done) | (go_simp; rfl)); intro gb118 hg w5 hbox hb; have n0_ := Aside0.mk (below_step (by repeat (first | (with_reducible first | exact HB.out | apply below_alloc | apply pw_below_drewN | apply below_drew1) | exact HB.out)) hb); have n1_ := Aside0.mk (hbox); have n2_ := Aside0.mk ((by rw [hg]; exact (below_size (by repeat (first | (with_reducible first | exact HB.out | apply below_alloc | apply pw_below_drewN | apply below_drew1) | exact HB.out))) : w.heap.size ≤ gb118)); have n3_ := Aside0.mk ((by rw [hg]; exact (below_size (by repeat (first | (with_reducible first | exact HB.out | apply below_alloc | apply pw_below_drewN | apply below_drew1) | exact HB.out))) : w.heap.size ≤ gb118)); clear HB; have HB := n0_; have BK118 := n1_; have GW118 := n2_; have GE118 := n3_; clear n0_ n1_ n2_ n3_; clear hb hbox hg))
  (try simp only [Act.put, List.setIfInBounds_toArray, List.set_cons_zero, List.set_cons_succ])
  go_cut [18] (fun v18 wc => ∃ (kq : Nat) (x18_3 : Bool), v18 = .bool x18_3 ∧ Aside0 (head_Shape_Holds.j0 kq a1 x18_3 a0_0 a0_1 a0_2 = some r) ∧ Aside0 (kq ≤ k) ∧ Aside0 (wc.heap[gb118]? = some (.cells #[.int .i64 a0_0, .int .i64 a0_1, .int .u64 a0_2] 32 (0, 0))) ∧ Aside0 (Below w.heap.size w wc))
  case first =>
    have H := HC4.out
    clear HC4
    by_cases c6 : a1 < 0
    · rw [if_pos c6] at H
      have c6b0 : decide (a1 < 0) = true := decide_eq_true c6
      clear c6
      (first | rw [c6b0] | (simp only [i64_w, i32_w]; rw [c6b0]) | skip)
      have H' := Aside0.mk H
      clear H
      go_wp2
      go_meet
      case rel => exact ⟨_, (true), (by first | rfl | (simp; done) | (simp [*]; done)), H', ⟨by first | omega | exact Nat.le_refl _⟩, ⟨by (with_reducible repeat (first | refine blk_drewN ?_ _ | refine blk_drew ?_ | refine blk_alloc ?_ _)); exact BK118.out⟩, ⟨by repeat (first | (with_reducible first | exact HB.out | apply below_alloc | apply pw_below_drewN | apply below_drew1 | refine below_set ?_ GE118.out) | exact HB.out)⟩⟩
    · rw [if_neg c6] at H
      have c6b0 : decide (a1 < 0) = false := decide_eq_false c6
      clear c6
      (first | rw [c6b0] | (simp only [i64_w, i32_w]; rw [c6b0]) | skip)
      by_cases c7 : a2 < 2
      · rw [if_pos c7] at H
        have c7b0 : decide (a2 < 2) = true := decide_eq_true c7
        clear c7
        have H' := Aside0.mk H
        clear H
        go_wp2
        go_meet
        case rel => exact ⟨_, (true), (by first | rfl | (simp; done) | (simp [*]; done)), H', ⟨by first | omega | exact Nat.le_refl _⟩, ⟨by (with_reducible repeat (first | refine blk_drewN ?_ _ | refine blk_drew ?_ | refine blk_alloc ?_ _)); exact BK118.out⟩, ⟨by repeat (first | (with_reducible first | exact HB.out | apply below_alloc | apply pw_below_drewN | apply below_drew1 | refine below_set ?_ GE118.out) | exact HB.out)⟩⟩
      · rw [if_neg c7] at H
        have c7b0 : decide (a2 < 2) = false := decide_eq_false c7
        clear c7
        have H' := Aside0.mk H
        clear H
        go_wp2
        go_meet
        case rel => exact ⟨_, (decide (a1 > (wrap64 (a2 - 2)))), (by first | rfl | (simp; done) | (simp [*]; done)), H', ⟨by first | omega | exact Nat.le_refl _⟩, ⟨by (with_reducible repeat (first | refine blk_drewN ?_ _ | refine blk_drew ?_ | refine blk_alloc ?_ _)); exact BK118.out⟩, ⟨by repeat (first | (with_reducible first | exact HB.out | apply below_alloc | apply pw_below_drewN | apply below_drew1 | refine below_set ?_ GE118.out) | exact HB.out)⟩⟩
  case rest =>
    clear HC4
    try clear c2
    try clear p2
    try clear c6
    try clear c6b0
    try clear p6
    try clear c7
    try clear c7b0
    obtain ⟨kq, x18_3, rfl, HA, HJ3, BK118, HB⟩ := hcut
    cases kq with
    | zero => exact absurd HA.out (by simp [head_Shape_Holds.j0])
    | succ kj3 =>
      have H := HA.out
      clear HA
      simp only [head_Shape_Holds.j0] at H
      by_cases c8 : x18_3 = true
      · subst c8
        have H1 : (some false) = some r := by rw [if_pos rfl] at H; exact H
        clear H
        have H := H1
        clear H1
        obtain rfl := Option.some.inj H
        go_wp2
        go_ret
        exact ⟨by first | rfl | (simp [errW_none, errW_some] <;> rfl) | (simp [*, errW_none, errW_some] <;> rfl), by repeat (first | (with_reducible first | exact HB.out | apply below_alloc | apply pw_below_drewN | apply below_drew1 | refine below_set ?_ GE118.out) | exact HB.out)⟩
      · replace c8 := Bool.eq_false_iff.mpr c8
        subst c8
        have H1 : (if a0_0 = 0 then (head_Shape_Holds.j1 kj3 a1 a0_0 (a0_0 == 0) a0_0 a0_1 a0_2) else (head_Shape_Holds.j1 kj3 a1 a0_0 (a0_0 == 2) a0_0 a0_1 a0_2)) = some r := by rw [if_neg (show ¬ (false = true) by decide)] at H; exact H
        clear H
        have H := H1
        clear H1
        have HC9 := Aside0.mk H
        clear H
        have hcz10_0 : wc.cell? ⟨gb118, 0, none⟩ = some (.int .i64 a0_0) := (blk_cell BK118.out 0).trans rfl
        have hcz10_1 : wc.cell? ⟨gb118, 1, none⟩ = some (.int .i64 a0_1) := (blk_cell BK118.out 1).trans rfl
        have hcz10_2 : wc.cell? ⟨gb118, 2, none⟩ = some (.int .u64 a0_2) := (blk_cell BK118.out 2).trans rfl
        have hfz10_0 := blk_frozen BK118.out 0
        have hfz10_1 := blk_frozen BK118.out 1
        have hfz10_2 := blk_frozen BK118.out 2
        go_upto_if 21 with (fail)
        go_cut [21] (fun v21 wc => ∃ (kq : Nat) (x21_8 : Bool), v21 = .bool x21_8 ∧ Aside0 (head_Shape_Holds.j1 kq a1 a0_0 x21_8 a0_0 a0_1 a0_2 = some r) ∧ Aside0 (kq ≤ kj3) ∧ Aside0 (wc.heap[gb118]? = some (.cells #[.int .i64 a0_0, .int .i64 a0_1, .int .u64 a0_2] 32 (0, 0))) ∧ Aside0 (Below w.heap.size w wc))
        case first =>
          have H := HC9.out
          clear HC9
          by_cases c11 : a0_0 = 0
          · rw [if_pos c11] at H
            have c11b0 : (a0_0 == 0) = true := beq_iff_eq.mpr c11
            have c11b1 : (a0_0 != 0) = false := bne_eq_false_iff_eq.mpr c11
            clear c11
            (first | rw [c11b0] | (simp only [i64_w, i32_w]; rw [c11b0]) | skip)
            have H' := Aside0.mk H
            clear H
            go_wp2
            go_meet
            case rel => exact ⟨_, ((a0_0 == 0)), (by first | rfl | (simp; done) | (simp [*]; done)), H', ⟨by have := HJ3.out; first | omega | exact Nat.le_refl _⟩, ⟨by (with_reducible repeat (first | refine blk_drewN ?_ _ | refine blk_drew ?_ | refine blk_alloc ?_ _)); exact BK118.out⟩, ⟨by repeat (first | (with_reducible first | exact HB.out | apply below_alloc | apply pw_below_drewN | apply below_drew1 | refine below_set ?_ GE118.out) | exact HB.out)⟩⟩
          · rw [if_neg c11] at H
            have c11b0 : (a0_0 == 0) = false := beq_eq_false_iff_ne.mpr c11
            have c11b1 : (a0_0 != 0) = true := bne_iff_ne.mpr c11
            (first | rw [c11b0] | (simp only [i64_w, i32_w]; rw [c11b0]) | skip)
            have H' := Aside0.mk H
            clear H
            go_wp2
            go_meet
            case rel => exact ⟨_, ((a0_0 == 2)), (by first | rfl | (simp; done) | (simp [*]; done)), H', ⟨by have := HJ3.out; first | omega | exact Nat.le_refl _⟩, ⟨by (with_reducible repeat (first | refine blk_drewN ?_ _ | refine blk_drew ?_ | refine blk_alloc ?_ _)); exact BK118.out⟩, ⟨by repeat (first | (with_reducible first | exact HB.out | apply below_alloc | apply pw_below_drewN | apply below_drew1 | refine below_set ?_ GE118.out) | exact HB.out)⟩⟩
        case rest =>
          clear HC9
          try clear c1
          try clear c2
          try clear p2
          try clear c6
          try clear c6b0
          try clear p6
          try clear c7
          try clear c7b0
          try clear c8
          try clear c11
          try clear c11b0
          try clear c11b1
          try clear hcz10_0
          try clear hcz10_1
          try clear hcz10_2
          try clear hfz10_0
          try clear hfz10_1
          try clear hfz10_2
          try clear p2
          try clear p6
          obtain ⟨kq, x21_8, rfl, HA, HJ8, BK118, HB⟩ := hcut
          cases kq with
          | zero => exact absurd HA.out (by simp [head_Shape_Holds.j1])
          | succ kj8 =>
            have H := HA.out
            clear HA
            simp only [head_Shape_Holds.j1] at H
            by_cases c12 : x21_8 = true
            · subst c12
              have H1 : (if 0 ≤ (IntKind.u64.wrap (a1)) then (some ((Go.bits .and .u64 (shr .u64 a0_2 (IntKind.u64.wrap (a1))) 1) == 1)) else (none)) = some r := by rw [if_pos rfl] at H; exact H
              clear H
              have H := H1
              clear H1
              obtain ⟨ji13, hji13⟩ : ∃ j_ : Int, (IntKind.u64.wrap (a1)) = j_ := ⟨_, rfl⟩
              replace H : (if 0 ≤ (ji13) then (some ((Go.bits .and .u64 (shr .u64 a0_2 (ji13)) 1) == 1)) else (none)) = some r := by first | (rw [hji13] at H; exact H) | (simp only [hji13] at H ⊢; exact H)
              by_cases c14 : 0 ≤ (ji13)
              · rw [if_pos c14] at H
                have c14b0 := eq_true c14
                have c14b1 : decide (0 ≤ (ji13)) = true := decide_eq_true c14
                clear c14
                obtain ⟨ji15, hji15⟩ : ∃ j_ : Int, (shr .u64 a0_2 (ji13)) = j_ := ⟨_, rfl⟩
                replace H : (some ((Go.bits .and .u64 (ji15) 1) == 1)) = some r := by first | (rw [hji15] at H; exact H) | (simp only [hji15] at H ⊢; exact H)
                have hji15_ : (a0_2 / 2 ^ min (ji13).toNat 64) = ji15 := hji15
                have hji15z : (ji13) ≤ 64 → (a0_2 / 2 ^ (ji13).toNat) = ji15 := shr_small hji15
                obtain rfl := Option.some.inj H
                have hcz16_0 : wc.cell? ⟨gb118, 0, none⟩ = some (.int .i64 a0_0) := (blk_cell BK118.out 0).trans rfl
                have hcz16_1 : wc.cell? ⟨gb118, 1, none⟩ = some (.int .i64 a0_1) := (blk_cell BK118.out 1).trans rfl
                have hcz16_2 : wc.cell? ⟨gb118, 2, none⟩ = some (.int .u64 a0_2) := (blk_cell BK118.out 2).trans rfl
                have hfz16_0 := blk_frozen BK118.out 0
                have hfz16_1 := blk_frozen BK118.out 1
                have hfz16_2 := blk_frozen BK118.out 2
                go_wp2
                go_ret
                exact ⟨by first | rfl | (simp [errW_none, errW_some] <;> rfl) | (simp only [← hji13, ← hji15]; first | rfl | (simp [errW_none, errW_some] <;> rfl)) | (simp [*, errW_none, errW_some] <;> rfl), by repeat (first | (with_reducible first | exact HB.out | apply below_alloc | apply pw_below_drewN | apply below_drew1 | refine below_set ?_ GE118.out) | exact HB.out)⟩
              · rw [if_neg c14] at H
                exact absurd H (by simp)
            · replace c12 := Bool.eq_false_iff.mpr c12
              subst c12
              have H1 : (if a0_0 = 1 then (some ((Go.bits .and .u64 a0_2 1) == 1)) else (if a0_0 = 3 then (if (Go.bits .and .u64 a0_2 1) = 1 then (some (decide (a1 ≥ 4))) else (some false)) else (some false))) = some r := by rw [if_neg (show ¬ (false = true) by decide)] at H; exact H
              clear H
              have H := H1
              clear H1
              by_cases c17 : a0_0 = 1
              · rw [if_pos c17] at H
                have c17b0 : (a0_0 == 1) = true := beq_iff_eq.mpr c17
                have c17b1 : (a0_0 != 1) = false := bne_eq_false_iff_eq.mpr c17
                clear c17
                obtain rfl := Option.some.inj H
                have hcz18_0 : wc.cell? ⟨gb118, 0, none⟩ = some (.int .i64 a0_0) := (blk_cell BK118.out 0).trans rfl
                have hcz18_1 : wc.cell? ⟨gb118, 1, none⟩ = some (.int .i64 a0_1) := (blk_cell BK118.out 1).trans rfl
                have hcz18_2 : wc.cell? ⟨gb118, 2, none⟩ = some (.int .u64 a0_2) := (blk_cell BK118.out 2).trans rfl
                have hfz18_0 := blk_frozen BK118.out 0
                have hfz18_1 := blk_frozen BK118.out 1
                have hfz18_2 := blk_frozen BK118.out 2
                go_wp2
                go_ret
                exact ⟨by first | rfl | (simp [errW_none, errW_some] <;> rfl) | (simp [*, errW_none, errW_some] <;> rfl), by repeat (first | (with_reducible first | exact HB.out | apply below_alloc | apply pw_below_drewN | apply below_drew1 | refine below_set ?_ GE118.out) | exact HB.out)⟩
              · rw [if_neg c17] at H
                have c17b0 : (a0_0 == 1) = false := beq_eq_false_iff_ne.mpr c17
                have c17b1 : (a0_0 != 1) = true := bne_iff_ne.mpr c17
                by_cases c19 : a0_0 = 3
                · rw [if_pos c19] at H
                  have c19b0 : (a0_0 == 3) = true := beq_iff_eq.mpr c19
                  have c19b1 : (a0_0 != 3) = false := bne_eq_false_iff_eq.mpr c19
                  clear c19
                  by_cases c20 : (Go.bits .and .u64 a0_2 1) = 1
                  · rw [if_pos c20] at H
                    have c20b0 : ((Go.bits .and .u64 a0_2 1) == 1) = true := beq_iff_eq.mpr c20
                    have c20b1 : ((Go.bits .and .u64 a0_2 1) != 1) = false := bne_eq_false_iff_eq.mpr c20
                    clear c20
                    obtain rfl := Option.some.inj H
                    have hcz21_0 : wc.cell? ⟨gb118, 0, none⟩ = some (.int .i64 a0_0) := (blk_cell BK118.out 0).trans rfl
                    have hcz21_1 : wc.cell? ⟨gb118, 1, none⟩ = some (.int .i64 a0_1) := (blk_cell BK118.out 1).trans rfl
                    have hcz21_2 : wc.cell? ⟨gb118, 2, none⟩ = some (.int .u64 a0_2) := (blk_cell BK118.out 2).trans rfl
                    have hfz21_0 := blk_frozen BK118.out 0
                    have hfz21_1 := blk_frozen BK118.out 1
                    have hfz21_2 := blk_frozen BK118.out 2
                    go_wp2
                    go_ret
                    exact ⟨by first | rfl | (simp [errW_none, errW_some] <;> rfl) | (simp [*, errW_none, errW_some] <;> rfl), by repeat (first | (with_reducible first | exact HB.out | apply below_alloc | apply pw_below_drewN | apply below_drew1 | refine below_set ?_ GE118.out) | exact HB.out)⟩
                  · rw [if_neg c20] at H
                    have c20b0 : ((Go.bits .and .u64 a0_2 1) == 1) = false := beq_eq_false_iff_ne.mpr c20
                    have c20b1 : ((Go.bits .and .u64 a0_2 1) != 1) = true := bne_iff_ne.mpr c20
                    obtain rfl := Option.some.inj H
                    have hcz22_0 : wc.cell? ⟨gb118, 0, none⟩ = some (.int .i64 a0_0) := (blk_cell BK118.out 0).trans rfl
                    have hcz22_1 : wc.cell? ⟨gb118, 1, none⟩ = some (.int .i64 a0_1) := (blk_cell BK118.out 1).trans rfl
                    have hcz22_2 : wc.cell? ⟨gb118, 2, none⟩ = some (.int .u64 a0_2) := (blk_cell BK118.out 2).trans rfl
                    have hfz22_0 := blk_frozen BK118.out 0
                    have hfz22_1 := blk_frozen BK118.out 1
                    have hfz22_2 := blk_frozen BK118.out 2
                    go_wp2
                    go_ret
                    exact ⟨by first | rfl | (simp [errW_none, errW_some] <;> rfl) | (simp [*, errW_none, errW_some] <;> rfl), by repeat (first | (with_reducible first | exact HB.out | apply below_alloc | apply pw_below_drewN | apply below_drew1 | refine below_set ?_ GE118.out) | exact HB.out)⟩
                · rw [if_neg c19] at H
                  have c19b0 : (a0_0 == 3) = false := beq_eq_false_iff_ne.mpr c19
                  have c19b1 : (a0_0 != 3) = true := bne_iff_ne.mpr c19
                  obtain rfl := Option.some.inj H
                  go_wp2
                  go_ret
                  exact ⟨by first | rfl | (simp [errW_none, errW_some] <;> rfl) | (simp [*, errW_none, errW_some] <;> rfl), by repeat (first | (with_reducible first | exact HB.out | apply below_alloc | apply pw_below_drewN | apply below_drew1 | refine below_set ?_ GE118.out) | exact HB.out)⟩

/-! ### gantlinelaw3_awake: function 8 -/
def gantlinelaw3_awake.f  : Option (Bool) := some true
set_option maxHeartbeats 8000000 in
set_option maxRecDepth 100000 in
theorem gantlinelaw3_awake.calls  (r : Bool) (w : World) (h : gantlinelaw3_awake.f  = some r) :
    Calls Try.prog 8 #[] w fun e w' => e = .returned (.bool r) ∧ Below w.heap.size w w' := by
  have hr : r = true := by unfold gantlinelaw3_awake.f at h; exact (Option.some.inj h).symm
  subst hr
  exact Go.Proofs.Ytjmmdpfmnnemoaa.Awake.awake_calls w
def gantlineref1_Pack.f (a0 : Int) (a1 : Int) (a2 : Int) : Option (Int × Bool) := if a0 < 1 then (some (0, false)) else (if a0 > 64 then (some (0, false)) else (if a1 < 0 then (some (0, false)) else (if a1 > 3 then (some (0, false)) else (if a2 < 0 then (some (0, false)) else (if a2 > 65535 then (some (0, false)) else (some (wrap64 ((wrap64 (a0 + (wrap64 (128 * a1)))) + (wrap64 (1024 * a2))), true)))))))
set_option maxHeartbeats 8000000 in
set_option maxRecDepth 100000 in
theorem gantlineref1_Pack.calls (a0 : Int) (a1 : Int) (a2 : Int) (r1 : Int) (r2 : Bool) (w : World) (h : gantlineref1_Pack.f a0 a1 a2 = some (r1, r2)) :
    Calls Try.prog 15 #[.int .i64 a0, .int .i64 a1, .int .i64 a2] w fun e w' => e = .returned (.tuple #[.int .i64 r1, .bool r2]) ∧ Drawn0 w w' := by
  have H : (if a0 < 1 then (some (0, false)) else (if a0 > 64 then (some (0, false)) else (if a1 < 0 then (some (0, false)) else (if a1 > 3 then (some (0, false)) else (if a2 < 0 then (some (0, false)) else (if a2 > 65535 then (some (0, false)) else (some (wrap64 ((wrap64 (a0 + (wrap64 (128 * a1)))) + (wrap64 (1024 * a2))), true)))))))) = some (r1, r2) := h
  clear h
  by_cases c4 : a0 < 1
  · rw [if_pos c4] at H
    have c4b0 : decide (a0 < 1) = true := decide_eq_true c4
    clear c4
    simp only [Option.some.injEq, Prod.mk.injEq] at H
    obtain ⟨rfl, rfl⟩ := H
    go_enter Try.func15, Try.ntmps15
    go_wp2
    go_ret2
    exact ⟨by first | rfl | (simp; done) | (simp [*]; done), by repeat (first | exact Drawn0.refl _ | apply Drawn0.step)⟩
  · rw [if_neg c4] at H
    have c4b0 : decide (a0 < 1) = false := decide_eq_false c4
    clear c4
    by_cases c5 : a0 > 64
    · rw [if_pos c5] at H
      have c5b0 : decide (64 < a0) = true := decide_eq_true c5
      clear c5
      simp only [Option.some.injEq, Prod.mk.injEq] at H
      obtain ⟨rfl, rfl⟩ := H
      go_enter Try.func15, Try.ntmps15
      go_wp2
      go_ret2
      exact ⟨by first | rfl | (simp; done) | (simp [*]; done), by repeat (first | exact Drawn0.refl _ | apply Drawn0.step)⟩
    · rw [if_neg c5] at H
      have c5b0 : decide (64 < a0) = false := decide_eq_false c5
      clear c5
      by_cases c6 : a1 < 0
      · rw [if_pos c6] at H
        have c6b0 : decide (a1 < 0) = true := decide_eq_true c6
        clear c6
        simp only [Option.some.injEq, Prod.mk.injEq] at H
        obtain ⟨rfl, rfl⟩ := H
        go_enter Try.func15, Try.ntmps15
        go_wp2
        go_ret2
        exact ⟨by first | rfl | (simp; done) | (simp [*]; done), by repeat (first | exact Drawn0.refl _ | apply Drawn0.step)⟩
      · rw [if_neg c6] at H
        have c6b0 : decide (a1 < 0) = false := decide_eq_false c6
        clear c6
        by_cases c7 : a1 > 3
        · rw [if_pos c7] at H
          have c7b0 : decide (3 < a1) = true := decide_eq_true c7
          clear c7
          simp only [Option.some.injEq, Prod.mk.injEq] at H
          obtain ⟨rfl, rfl⟩ := H
          go_enter Try.func15, Try.ntmps15
          go_wp2
          go_ret2
          exact ⟨by first | rfl | (simp; done) | (simp [*]; done), by repeat (first | exact Drawn0.refl _ | apply Drawn0.step)⟩
        · rw [if_neg c7] at H
          have c7b0 : decide (3 < a1) = false := decide_eq_false c7
          clear c7
          by_cases c8 : a2 < 0
          · rw [if_pos c8] at H
            have c8b0 : decide (a2 < 0) = true := decide_eq_true c8
            clear c8
            simp only [Option.some.injEq, Prod.mk.injEq] at H
            obtain ⟨rfl, rfl⟩ := H
            go_enter Try.func15, Try.ntmps15
            go_wp2
            go_ret2
            exact ⟨by first | rfl | (simp; done) | (simp [*]; done), by repeat (first | exact Drawn0.refl _ | apply Drawn0.step)⟩
          · rw [if_neg c8] at H
            have c8b0 : decide (a2 < 0) = false := decide_eq_false c8
            clear c8
            by_cases c9 : a2 > 65535
            · rw [if_pos c9] at H
              have c9b0 : decide (65535 < a2) = true := decide_eq_true c9
              clear c9
              simp only [Option.some.injEq, Prod.mk.injEq] at H
              obtain ⟨rfl, rfl⟩ := H
              go_enter Try.func15, Try.ntmps15
              go_wp2
              go_ret2
              exact ⟨by first | rfl | (simp; done) | (simp [*]; done), by repeat (first | exact Drawn0.refl _ | apply Drawn0.step)⟩
            · rw [if_neg c9] at H
              have c9b0 : decide (65535 < a2) = false := decide_eq_false c9
              clear c9
              simp only [Option.some.injEq, Prod.mk.injEq] at H
              obtain ⟨rfl, rfl⟩ := H
              go_enter Try.func15, Try.ntmps15
              go_wp2
              go_ret2
              exact ⟨by first | rfl | (simp; done) | (simp [*]; done), by repeat (first | exact Drawn0.refl _ | apply Drawn0.step)⟩

/-! ### gantlineref1_Unpack: function 16 -/
def gantlineref1_Unpack.f (a0 : Int) : Option (Int × Int × Int × Bool) := if a0 < 0 then (some (0, 0, 0, false)) else (if a0 ≥ 67108864 then (some (0, 0, 0, false)) else ((gantlineref1_Pack.f (Int.tmod a0 128) (Int.tmod (wrap64 (Int.tdiv a0 128)) 8) (wrap64 (Int.tdiv a0 1024))).bind fun bt120 => (if bt120.2 = true then (some (Int.tmod a0 128, Int.tmod (wrap64 (Int.tdiv a0 128)) 8, wrap64 (Int.tdiv a0 1024), true)) else (some (0, 0, 0, false)))))
set_option maxHeartbeats 8000000 in
set_option maxRecDepth 100000 in
theorem gantlineref1_Unpack.calls (a0 : Int) (r1 : Int) (r2 : Int) (r3 : Int) (r4 : Bool) (w : World) (h : gantlineref1_Unpack.f a0 = some (r1, r2, r3, r4)) :
    Calls Try.prog 16 #[.int .i64 a0] w fun e w' => e = .returned (.tuple #[.int .i64 r1, .int .i64 r2, .int .i64 r3, .bool r4]) ∧ Drawn0 w w' := by
  have H : (if a0 < 0 then (some (0, 0, 0, false)) else (if a0 ≥ 67108864 then (some (0, 0, 0, false)) else ((gantlineref1_Pack.f (Int.tmod a0 128) (Int.tmod (wrap64 (Int.tdiv a0 128)) 8) (wrap64 (Int.tdiv a0 1024))).bind fun bt120 => (if bt120.2 = true then (some (Int.tmod a0 128, Int.tmod (wrap64 (Int.tdiv a0 128)) 8, wrap64 (Int.tdiv a0 1024), true)) else (some (0, 0, 0, false)))))) = some (r1, r2, r3, r4) := h
  clear h
  by_cases c2 : a0 < 0
  · rw [if_pos c2] at H
    have c2b0 : decide (a0 < 0) = true := decide_eq_true c2
    clear c2
    simp only [Option.some.injEq, Prod.mk.injEq] at H
    obtain ⟨rfl, rfl, rfl, rfl⟩ := H
    go_enter Try.func16, Try.ntmps16
    go_wp2
    refine bodyPost_ret (results_list (rs := [.tmp 2, .tmp 3, .tmp 4, .tmp 5]) rfl (by simp) (.tmp (.tmp (.tmp (.tmp .nil))))) rfl ?_
    exact ⟨by first | rfl | (simp; done) | (simp [*]; done), by repeat (first | exact Drawn0.refl _ | apply Drawn0.step)⟩
  · rw [if_neg c2] at H
    have c2b0 : decide (a0 < 0) = false := decide_eq_false c2
    clear c2
    by_cases c3 : a0 ≥ 67108864
    · rw [if_pos c3] at H
      have c3b0 : decide (67108864 ≤ a0) = true := decide_eq_true c3
      clear c3
      simp only [Option.some.injEq, Prod.mk.injEq] at H
      obtain ⟨rfl, rfl, rfl, rfl⟩ := H
      go_enter Try.func16, Try.ntmps16
      go_wp2
      refine bodyPost_ret (results_list (rs := [.tmp 2, .tmp 3, .tmp 4, .tmp 5]) rfl (by simp) (.tmp (.tmp (.tmp (.tmp .nil))))) rfl ?_
      exact ⟨by first | rfl | (simp; done) | (simp [*]; done), by repeat (first | exact Drawn0.refl _ | apply Drawn0.step)⟩
    · rw [if_neg c3] at H
      have c3b0 : decide (67108864 ≤ a0) = false := decide_eq_false c3
      clear c3
      replace H := Option.bind_eq_some_iff.mp H
      obtain ⟨⟨t120, t121⟩, A40, H⟩ := H
      replace H : (if t121 = true then (some (Int.tmod a0 128, Int.tmod (wrap64 (Int.tdiv a0 128)) 8, wrap64 (Int.tdiv a0 1024), true)) else (some (0, 0, 0, false))) = some (r1, r2, r3, r4) := H
      have A4 := Aside0.mk A40
      clear A40
      by_cases c5 : t121 = true
      · subst c5
        have H1 : (some (Int.tmod a0 128, Int.tmod (wrap64 (Int.tdiv a0 128)) 8, wrap64 (Int.tdiv a0 1024), true)) = some (r1, r2, r3, r4) := by rw [if_pos rfl] at H; exact H
        clear H
        have H := H1
        clear H1
        simp only [Option.some.injEq, Prod.mk.injEq] at H
        obtain ⟨rfl, rfl, rfl, rfl⟩ := H
        go_enter Try.func16, Try.ntmps16
        go_wp2_with (first | ((with_reducible refine gate_callee (f := 15) rfl ?_); refine goesL_ (some 26) rfl rfl Try.func15 (by kernel_rfl) rfl #[.int .i64 (Int.tmod a0 128), .int .i64 (Int.tmod (wrap64 (Int.tdiv a0 128)) 8), .int .i64 (wrap64 (Int.tdiv a0 1024))] rfl (by (try simp only [List.map_toArray, List.map_cons, List.map_nil]); first | done | rfl | (simp only [List.length_drop, List.length_take]; rfl)) ?_; (with_reducible refine (gantlineref1_Pack.calls (Int.tmod a0 128) (Int.tmod (wrap64 (Int.tdiv a0 128)) 8) (wrap64 (Int.tdiv a0 1024)) t120 true _ A4.out).mono ?_); rintro e w' ⟨rfl, ⟨nd, rfl⟩⟩; refine ⟨_, rfl, ?_⟩))
        refine bodyPost_ret (results_list (rs := [.tmp 2, .tmp 3, .tmp 4, .tmp 5]) rfl (by simp) (.tmp (.tmp (.tmp (.tmp .nil))))) rfl ?_
        exact ⟨by first | rfl | (simp; done) | (simp [*]; done), by repeat (first | exact Drawn0.refl _ | apply Drawn0.step)⟩
      · replace c5 := Bool.eq_false_iff.mpr c5
        subst c5
        have H1 : (some (0, 0, 0, false)) = some (r1, r2, r3, r4) := by rw [if_neg (show ¬ (false = true) by decide)] at H; exact H
        clear H
        have H := H1
        clear H1
        simp only [Option.some.injEq, Prod.mk.injEq] at H
        obtain ⟨rfl, rfl, rfl, rfl⟩ := H
        go_enter Try.func16, Try.ntmps16
        go_wp2_with (first | ((with_reducible refine gate_callee (f := 15) rfl ?_); refine goesL_ (some 26) rfl rfl Try.func15 (by kernel_rfl) rfl #[.int .i64 (Int.tmod a0 128), .int .i64 (Int.tmod (wrap64 (Int.tdiv a0 128)) 8), .int .i64 (wrap64 (Int.tdiv a0 1024))] rfl (by (try simp only [List.map_toArray, List.map_cons, List.map_nil]); first | done | rfl | (simp only [List.length_drop, List.length_take]; rfl)) ?_; (with_reducible refine (gantlineref1_Pack.calls (Int.tmod a0 128) (Int.tmod (wrap64 (Int.tdiv a0 128)) 8) (wrap64 (Int.tdiv a0 1024)) t120 false _ A4.out).mono ?_); rintro e w' ⟨rfl, ⟨nd, rfl⟩⟩; refine ⟨_, rfl, ?_⟩))
        refine bodyPost_ret (results_list (rs := [.tmp 2, .tmp 3, .tmp 4, .tmp 5]) rfl (by simp) (.tmp (.tmp (.tmp (.tmp .nil))))) rfl ?_
        exact ⟨by first | rfl | (simp; done) | (simp [*]; done), by repeat (first | exact Drawn0.refl _ | apply Drawn0.step)⟩

end Go.Proofs.Ytjmmdpfmnnemoaa.PHeadPacks
