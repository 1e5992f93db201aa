/- ParseRanks: what is run; what is answered where the law asks nothing. -/
import Derived.Test.YtachednafdmmaaaGreatDoorProg
import Derived.Test.YtachednafdmmaaaGreatDoorAIfl
import Derived.KernelRfl
namespace Go.Proofs.YtachednafdmmaaaGreatDoor.AI
open Go Go.RowKit
set_option linter.unusedVariables false
set_option linter.unusedSimpArgs false
theorem hmix : Tryz.prog.follows .mixedOrders = true := by kernel_rfl
noncomputable def tab0 : Tr FFn := natTab noF [] (mkTab Tryz.prog gl0 (List.range 100))
set_option maxRecDepth 100000 in
theorem awake_run : callF tab0 200 false 4 [] ⟨eH, 0⟩ (fun v _ => some v) = some (.bool true) := by kernel_rfl
def awakeE (ar : List Value) : Option Value := match ar with
  | [] => some (.bool true)
  | _ => none
def Fk : FuncId → List Value → Option Value := andF 4 awakeE noF
theorem Fk_ok : TabOK Tryz.prog Fk := by
  refine andF_ok Tryz.func4 rfl (by kernel_rfl) (fun ar v h => ?_) noF_ok
  unfold awakeE at h
  split at h
  · cases h
    exact ⟨rfl, rfl, fun w => fast_calls hmix noF_ok (fun _ _ _ => rfl) awake_run rfl rfl w⟩
  · cases h
theorem Fk_no : ∀ g, g ∉ [4] → ∀ args, Fk g args = none := by
  intro g hg args
  unfold Fk andF
  cases h : Nat.beq g 4 with
  | true => exact absurd (by rw [Nat.eq_of_beq_eq_true h]; simp) hg
  | false => rfl
noncomputable def tabK : Tr FFn := natTab Fk [4] (mkTab Tryz.prog gl0 (List.range 100))
/-- The law's answer, by a fast run. -/
noncomputable def rk (a b i k : Int) : Bool := okO (callF tabK 200 false 3 [.int .i64 a, .int .i64 b, .int .i64 i, .int .i64 k] ⟨eH, 0⟩ fun v _ => some v)
noncomputable def rkq (q : Nat × Nat × Nat × Nat) : Bool := rk (.ofNat q.1) (.ofNat q.2.1) (.ofNat q.2.2.1) (.ofNat q.2.2.2)
theorem of_all {l : List (Nat × Nat × Nat × Nat)} (h : l.all rkq = true) {q : Nat × Nat × Nat × Nat} (hq : l.any (fun r => Nat.beq r.1 q.1 && Nat.beq r.2.1 q.2.1 && Nat.beq r.2.2.1 q.2.2.1 && Nat.beq r.2.2.2 q.2.2.2) = true) : rkq q = true := by
  obtain ⟨r, hr, he⟩ := List.any_eq_true.1 hq
  simp only [Bool.and_eq_true] at he
  obtain ⟨⟨⟨e1, e2⟩, e3⟩, e4⟩ := he
  have : r = q := by
    obtain ⟨a, b, c, d⟩ := r
    obtain ⟨a', b', c', d'⟩ := q
    have h1 := Nat.eq_of_beq_eq_true e1
    have h2 := Nat.eq_of_beq_eq_true e2
    have h3 := Nat.eq_of_beq_eq_true e3
    have h4 := Nat.eq_of_beq_eq_true e4
    dsimp only at h1 h2 h3 h4
    subst h1 h2 h3 h4
    rfl
  rw [← this]
  exact List.all_eq_true.1 h r hr
set_option maxRecDepth 100000
theorem xa (m : Nat) (b i k : Int) : rk (.negSucc m) b i k = true := by kernel_rfl
theorem xb (m : Nat) (b i k : Int) : rk (.ofNat (m + 5)) b i k = true := by kernel_rfl
theorem ya0 (m : Nat) (i k : Int) : rk (.ofNat 0) (.negSucc m) i k = true := by kernel_rfl
theorem yb0 (m : Nat) (i k : Int) : rk (.ofNat 0) (.ofNat (m + 5)) i k = true := by kernel_rfl
theorem za0_0 (m : Nat) (k : Int) : rk (.ofNat 0) (.ofNat 0) (.negSucc m) k = true := by kernel_rfl
theorem zb0_0 (n m : Nat) : rk (.ofNat 0) (.ofNat 0) (.ofNat n) (.negSucc m) = true := by kernel_rfl
theorem zc0_0 (m n : Nat) : rk (.ofNat 0) (.ofNat 0) (.ofNat (m + 1)) (.ofNat n) = true := by kernel_rfl
theorem zd0_0_0 (m : Nat) : rk (.ofNat 0) (.ofNat 0) (.ofNat 0) (.ofNat (m + 1)) = true := by kernel_rfl
theorem za0_1 (m : Nat) (k : Int) : rk (.ofNat 0) (.ofNat 1) (.negSucc m) k = true := by kernel_rfl
theorem zb0_1 (n m : Nat) : rk (.ofNat 0) (.ofNat 1) (.ofNat n) (.negSucc m) = true := by kernel_rfl
theorem zc0_1 (m n : Nat) : rk (.ofNat 0) (.ofNat 1) (.ofNat (m + 1)) (.ofNat n) = true := by kernel_rfl
theorem zd0_1_0 (m : Nat) : rk (.ofNat 0) (.ofNat 1) (.ofNat 0) (.ofNat (m + 1)) = true := by kernel_rfl
theorem za0_2 (m : Nat) (k : Int) : rk (.ofNat 0) (.ofNat 2) (.negSucc m) k = true := by kernel_rfl
theorem zb0_2 (n m : Nat) : rk (.ofNat 0) (.ofNat 2) (.ofNat n) (.negSucc m) = true := by kernel_rfl
theorem zc0_2 (m n : Nat) : rk (.ofNat 0) (.ofNat 2) (.ofNat (m + 1)) (.ofNat n) = true := by kernel_rfl
theorem zd0_2_0 (m : Nat) : rk (.ofNat 0) (.ofNat 2) (.ofNat 0) (.ofNat (m + 6)) = true := by kernel_rfl
theorem za0_3 (m : Nat) (k : Int) : rk (.ofNat 0) (.ofNat 3) (.negSucc m) k = true := by kernel_rfl
theorem zb0_3 (n m : Nat) : rk (.ofNat 0) (.ofNat 3) (.ofNat n) (.negSucc m) = true := by kernel_rfl
theorem zc0_3 (m n : Nat) : rk (.ofNat 0) (.ofNat 3) (.ofNat (m + 1)) (.ofNat n) = true := by kernel_rfl
theorem zd0_3_0 (m : Nat) : rk (.ofNat 0) (.ofNat 3) (.ofNat 0) (.ofNat (m + 4)) = true := by kernel_rfl
theorem za0_4 (m : Nat) (k : Int) : rk (.ofNat 0) (.ofNat 4) (.negSucc m) k = true := by kernel_rfl
theorem zb0_4 (n m : Nat) : rk (.ofNat 0) (.ofNat 4) (.ofNat n) (.negSucc m) = true := by kernel_rfl
theorem zc0_4 (m n : Nat) : rk (.ofNat 0) (.ofNat 4) (.ofNat (m + 1)) (.ofNat n) = true := by kernel_rfl
theorem zd0_4_0 (m : Nat) : rk (.ofNat 0) (.ofNat 4) (.ofNat 0) (.ofNat (m + 6)) = true := by kernel_rfl
theorem ya1 (m : Nat) (i k : Int) : rk (.ofNat 1) (.negSucc m) i k = true := by kernel_rfl
theorem yb1 (m : Nat) (i k : Int) : rk (.ofNat 1) (.ofNat (m + 5)) i k = true := by kernel_rfl
theorem za1_0 (m : Nat) (k : Int) : rk (.ofNat 1) (.ofNat 0) (.negSucc m) k = true := by kernel_rfl
theorem zb1_0 (n m : Nat) : rk (.ofNat 1) (.ofNat 0) (.ofNat n) (.negSucc m) = true := by kernel_rfl
theorem zc1_0 (m n : Nat) : rk (.ofNat 1) (.ofNat 0) (.ofNat (m + 1)) (.ofNat n) = true := by kernel_rfl
theorem zd1_0_0 (m : Nat) : rk (.ofNat 1) (.ofNat 0) (.ofNat 0) (.ofNat (m + 1)) = true := by kernel_rfl
theorem za1_1 (m : Nat) (k : Int) : rk (.ofNat 1) (.ofNat 1) (.negSucc m) k = true := by kernel_rfl
theorem zb1_1 (n m : Nat) : rk (.ofNat 1) (.ofNat 1) (.ofNat n) (.negSucc m) = true := by kernel_rfl
theorem zc1_1 (m n : Nat) : rk (.ofNat 1) (.ofNat 1) (.ofNat (m + 1)) (.ofNat n) = true := by kernel_rfl
theorem zd1_1_0 (m : Nat) : rk (.ofNat 1) (.ofNat 1) (.ofNat 0) (.ofNat (m + 1)) = true := by kernel_rfl
theorem za1_2 (m : Nat) (k : Int) : rk (.ofNat 1) (.ofNat 2) (.negSucc m) k = true := by kernel_rfl
theorem zb1_2 (n m : Nat) : rk (.ofNat 1) (.ofNat 2) (.ofNat n) (.negSucc m) = true := by kernel_rfl
theorem zc1_2 (m n : Nat) : rk (.ofNat 1) (.ofNat 2) (.ofNat (m + 1)) (.ofNat n) = true := by kernel_rfl
theorem zd1_2_0 (m : Nat) : rk (.ofNat 1) (.ofNat 2) (.ofNat 0) (.ofNat (m + 6)) = true := by kernel_rfl
theorem za1_3 (m : Nat) (k : Int) : rk (.ofNat 1) (.ofNat 3) (.negSucc m) k = true := by kernel_rfl
theorem zb1_3 (n m : Nat) : rk (.ofNat 1) (.ofNat 3) (.ofNat n) (.negSucc m) = true := by kernel_rfl
theorem zc1_3 (m n : Nat) : rk (.ofNat 1) (.ofNat 3) (.ofNat (m + 1)) (.ofNat n) = true := by kernel_rfl
theorem zd1_3_0 (m : Nat) : rk (.ofNat 1) (.ofNat 3) (.ofNat 0) (.ofNat (m + 4)) = true := by kernel_rfl
theorem za1_4 (m : Nat) (k : Int) : rk (.ofNat 1) (.ofNat 4) (.negSucc m) k = true := by kernel_rfl
theorem zb1_4 (n m : Nat) : rk (.ofNat 1) (.ofNat 4) (.ofNat n) (.negSucc m) = true := by kernel_rfl
theorem zc1_4 (m n : Nat) : rk (.ofNat 1) (.ofNat 4) (.ofNat (m + 1)) (.ofNat n) = true := by kernel_rfl
theorem zd1_4_0 (m : Nat) : rk (.ofNat 1) (.ofNat 4) (.ofNat 0) (.ofNat (m + 6)) = true := by kernel_rfl
theorem ya2 (m : Nat) (i k : Int) : rk (.ofNat 2) (.negSucc m) i k = true := by kernel_rfl
theorem yb2 (m : Nat) (i k : Int) : rk (.ofNat 2) (.ofNat (m + 5)) i k = true := by kernel_rfl
theorem za2_0 (m : Nat) (k : Int) : rk (.ofNat 2) (.ofNat 0) (.negSucc m) k = true := by kernel_rfl
theorem zb2_0 (n m : Nat) : rk (.ofNat 2) (.ofNat 0) (.ofNat n) (.negSucc m) = true := by kernel_rfl
theorem zc2_0 (m n : Nat) : rk (.ofNat 2) (.ofNat 0) (.ofNat (m + 6)) (.ofNat n) = true := by kernel_rfl
theorem zd2_0_0 (m : Nat) : rk (.ofNat 2) (.ofNat 0) (.ofNat 0) (.ofNat (m + 1)) = true := by kernel_rfl
theorem zd2_0_1 (m : Nat) : rk (.ofNat 2) (.ofNat 0) (.ofNat 1) (.ofNat (m + 1)) = true := by kernel_rfl
theorem zd2_0_2 (m : Nat) : rk (.ofNat 2) (.ofNat 0) (.ofNat 2) (.ofNat (m + 1)) = true := by kernel_rfl
theorem zd2_0_3 (m : Nat) : rk (.ofNat 2) (.ofNat 0) (.ofNat 3) (.ofNat (m + 1)) = true := by kernel_rfl
theorem zd2_0_4 (m : Nat) : rk (.ofNat 2) (.ofNat 0) (.ofNat 4) (.ofNat (m + 1)) = true := by kernel_rfl
theorem zd2_0_5 (m : Nat) : rk (.ofNat 2) (.ofNat 0) (.ofNat 5) (.ofNat (m + 1)) = true := by kernel_rfl
theorem za2_1 (m : Nat) (k : Int) : rk (.ofNat 2) (.ofNat 1) (.negSucc m) k = true := by kernel_rfl
theorem zb2_1 (n m : Nat) : rk (.ofNat 2) (.ofNat 1) (.ofNat n) (.negSucc m) = true := by kernel_rfl
theorem zc2_1 (m n : Nat) : rk (.ofNat 2) (.ofNat 1) (.ofNat (m + 6)) (.ofNat n) = true := by kernel_rfl
theorem zd2_1_0 (m : Nat) : rk (.ofNat 2) (.ofNat 1) (.ofNat 0) (.ofNat (m + 1)) = true := by kernel_rfl
theorem zd2_1_1 (m : Nat) : rk (.ofNat 2) (.ofNat 1) (.ofNat 1) (.ofNat (m + 1)) = true := by kernel_rfl
theorem zd2_1_2 (m : Nat) : rk (.ofNat 2) (.ofNat 1) (.ofNat 2) (.ofNat (m + 1)) = true := by kernel_rfl
theorem zd2_1_3 (m : Nat) : rk (.ofNat 2) (.ofNat 1) (.ofNat 3) (.ofNat (m + 1)) = true := by kernel_rfl
theorem zd2_1_4 (m : Nat) : rk (.ofNat 2) (.ofNat 1) (.ofNat 4) (.ofNat (m + 1)) = true := by kernel_rfl
theorem zd2_1_5 (m : Nat) : rk (.ofNat 2) (.ofNat 1) (.ofNat 5) (.ofNat (m + 1)) = true := by kernel_rfl
theorem za2_2 (m : Nat) (k : Int) : rk (.ofNat 2) (.ofNat 2) (.negSucc m) k = true := by kernel_rfl
theorem zb2_2 (n m : Nat) : rk (.ofNat 2) (.ofNat 2) (.ofNat n) (.negSucc m) = true := by kernel_rfl
theorem zc2_2 (m n : Nat) : rk (.ofNat 2) (.ofNat 2) (.ofNat (m + 6)) (.ofNat n) = true := by kernel_rfl
theorem zd2_2_0 (m : Nat) : rk (.ofNat 2) (.ofNat 2) (.ofNat 0) (.ofNat (m + 6)) = true := by kernel_rfl
theorem zd2_2_1 (m : Nat) : rk (.ofNat 2) (.ofNat 2) (.ofNat 1) (.ofNat (m + 6)) = true := by kernel_rfl
theorem zd2_2_2 (m : Nat) : rk (.ofNat 2) (.ofNat 2) (.ofNat 2) (.ofNat (m + 6)) = true := by kernel_rfl
theorem zd2_2_3 (m : Nat) : rk (.ofNat 2) (.ofNat 2) (.ofNat 3) (.ofNat (m + 6)) = true := by kernel_rfl
theorem zd2_2_4 (m : Nat) : rk (.ofNat 2) (.ofNat 2) (.ofNat 4) (.ofNat (m + 6)) = true := by kernel_rfl
theorem zd2_2_5 (m : Nat) : rk (.ofNat 2) (.ofNat 2) (.ofNat 5) (.ofNat (m + 6)) = true := by kernel_rfl
theorem za2_3 (m : Nat) (k : Int) : rk (.ofNat 2) (.ofNat 3) (.negSucc m) k = true := by kernel_rfl
theorem zb2_3 (n m : Nat) : rk (.ofNat 2) (.ofNat 3) (.ofNat n) (.negSucc m) = true := by kernel_rfl
theorem zc2_3 (m n : Nat) : rk (.ofNat 2) (.ofNat 3) (.ofNat (m + 6)) (.ofNat n) = true := by kernel_rfl
theorem zd2_3_0 (m : Nat) : rk (.ofNat 2) (.ofNat 3) (.ofNat 0) (.ofNat (m + 4)) = true := by kernel_rfl
theorem zd2_3_1 (m : Nat) : rk (.ofNat 2) (.ofNat 3) (.ofNat 1) (.ofNat (m + 4)) = true := by kernel_rfl
theorem zd2_3_2 (m : Nat) : rk (.ofNat 2) (.ofNat 3) (.ofNat 2) (.ofNat (m + 4)) = true := by kernel_rfl
theorem zd2_3_3 (m : Nat) : rk (.ofNat 2) (.ofNat 3) (.ofNat 3) (.ofNat (m + 4)) = true := by kernel_rfl
theorem zd2_3_4 (m : Nat) : rk (.ofNat 2) (.ofNat 3) (.ofNat 4) (.ofNat (m + 4)) = true := by kernel_rfl
theorem zd2_3_5 (m : Nat) : rk (.ofNat 2) (.ofNat 3) (.ofNat 5) (.ofNat (m + 4)) = true := by kernel_rfl
theorem za2_4 (m : Nat) (k : Int) : rk (.ofNat 2) (.ofNat 4) (.negSucc m) k = true := by kernel_rfl
theorem zb2_4 (n m : Nat) : rk (.ofNat 2) (.ofNat 4) (.ofNat n) (.negSucc m) = true := by kernel_rfl
theorem zc2_4 (m n : Nat) : rk (.ofNat 2) (.ofNat 4) (.ofNat (m + 6)) (.ofNat n) = true := by kernel_rfl
theorem zd2_4_0 (m : Nat) : rk (.ofNat 2) (.ofNat 4) (.ofNat 0) (.ofNat (m + 6)) = true := by kernel_rfl
theorem zd2_4_1 (m : Nat) : rk (.ofNat 2) (.ofNat 4) (.ofNat 1) (.ofNat (m + 6)) = true := by kernel_rfl
theorem zd2_4_2 (m : Nat) : rk (.ofNat 2) (.ofNat 4) (.ofNat 2) (.ofNat (m + 6)) = true := by kernel_rfl
theorem zd2_4_3 (m : Nat) : rk (.ofNat 2) (.ofNat 4) (.ofNat 3) (.ofNat (m + 6)) = true := by kernel_rfl
theorem zd2_4_4 (m : Nat) : rk (.ofNat 2) (.ofNat 4) (.ofNat 4) (.ofNat (m + 6)) = true := by kernel_rfl
theorem zd2_4_5 (m : Nat) : rk (.ofNat 2) (.ofNat 4) (.ofNat 5) (.ofNat (m + 6)) = true := by kernel_rfl
theorem ya3 (m : Nat) (i k : Int) : rk (.ofNat 3) (.negSucc m) i k = true := by kernel_rfl
theorem yb3 (m : Nat) (i k : Int) : rk (.ofNat 3) (.ofNat (m + 5)) i k = true := by kernel_rfl
theorem za3_0 (m : Nat) (k : Int) : rk (.ofNat 3) (.ofNat 0) (.negSucc m) k = true := by kernel_rfl
theorem zb3_0 (n m : Nat) : rk (.ofNat 3) (.ofNat 0) (.ofNat n) (.negSucc m) = true := by kernel_rfl
theorem zc3_0 (m n : Nat) : rk (.ofNat 3) (.ofNat 0) (.ofNat (m + 4)) (.ofNat n) = true := by kernel_rfl
theorem zd3_0_0 (m : Nat) : rk (.ofNat 3) (.ofNat 0) (.ofNat 0) (.ofNat (m + 1)) = true := by kernel_rfl
theorem zd3_0_1 (m : Nat) : rk (.ofNat 3) (.ofNat 0) (.ofNat 1) (.ofNat (m + 1)) = true := by kernel_rfl
theorem zd3_0_2 (m : Nat) : rk (.ofNat 3) (.ofNat 0) (.ofNat 2) (.ofNat (m + 1)) = true := by kernel_rfl
theorem zd3_0_3 (m : Nat) : rk (.ofNat 3) (.ofNat 0) (.ofNat 3) (.ofNat (m + 1)) = true := by kernel_rfl
theorem za3_1 (m : Nat) (k : Int) : rk (.ofNat 3) (.ofNat 1) (.negSucc m) k = true := by kernel_rfl
theorem zb3_1 (n m : Nat) : rk (.ofNat 3) (.ofNat 1) (.ofNat n) (.negSucc m) = true := by kernel_rfl
theorem zc3_1 (m n : Nat) : rk (.ofNat 3) (.ofNat 1) (.ofNat (m + 4)) (.ofNat n) = true := by kernel_rfl
theorem zd3_1_0 (m : Nat) : rk (.ofNat 3) (.ofNat 1) (.ofNat 0) (.ofNat (m + 1)) = true := by kernel_rfl
theorem zd3_1_1 (m : Nat) : rk (.ofNat 3) (.ofNat 1) (.ofNat 1) (.ofNat (m + 1)) = true := by kernel_rfl
theorem zd3_1_2 (m : Nat) : rk (.ofNat 3) (.ofNat 1) (.ofNat 2) (.ofNat (m + 1)) = true := by kernel_rfl
theorem zd3_1_3 (m : Nat) : rk (.ofNat 3) (.ofNat 1) (.ofNat 3) (.ofNat (m + 1)) = true := by kernel_rfl
theorem za3_2 (m : Nat) (k : Int) : rk (.ofNat 3) (.ofNat 2) (.negSucc m) k = true := by kernel_rfl
theorem zb3_2 (n m : Nat) : rk (.ofNat 3) (.ofNat 2) (.ofNat n) (.negSucc m) = true := by kernel_rfl
theorem zc3_2 (m n : Nat) : rk (.ofNat 3) (.ofNat 2) (.ofNat (m + 4)) (.ofNat n) = true := by kernel_rfl
theorem zd3_2_0 (m : Nat) : rk (.ofNat 3) (.ofNat 2) (.ofNat 0) (.ofNat (m + 6)) = true := by kernel_rfl
theorem zd3_2_1 (m : Nat) : rk (.ofNat 3) (.ofNat 2) (.ofNat 1) (.ofNat (m + 6)) = true := by kernel_rfl
theorem zd3_2_2 (m : Nat) : rk (.ofNat 3) (.ofNat 2) (.ofNat 2) (.ofNat (m + 6)) = true := by kernel_rfl
theorem zd3_2_3 (m : Nat) : rk (.ofNat 3) (.ofNat 2) (.ofNat 3) (.ofNat (m + 6)) = true := by kernel_rfl
theorem za3_3 (m : Nat) (k : Int) : rk (.ofNat 3) (.ofNat 3) (.negSucc m) k = true := by kernel_rfl
theorem zb3_3 (n m : Nat) : rk (.ofNat 3) (.ofNat 3) (.ofNat n) (.negSucc m) = true := by kernel_rfl
theorem zc3_3 (m n : Nat) : rk (.ofNat 3) (.ofNat 3) (.ofNat (m + 4)) (.ofNat n) = true := by kernel_rfl
theorem zd3_3_0 (m : Nat) : rk (.ofNat 3) (.ofNat 3) (.ofNat 0) (.ofNat (m + 4)) = true := by kernel_rfl
theorem zd3_3_1 (m : Nat) : rk (.ofNat 3) (.ofNat 3) (.ofNat 1) (.ofNat (m + 4)) = true := by kernel_rfl
theorem zd3_3_2 (m : Nat) : rk (.ofNat 3) (.ofNat 3) (.ofNat 2) (.ofNat (m + 4)) = true := by kernel_rfl
theorem zd3_3_3 (m : Nat) : rk (.ofNat 3) (.ofNat 3) (.ofNat 3) (.ofNat (m + 4)) = true := by kernel_rfl
theorem za3_4 (m : Nat) (k : Int) : rk (.ofNat 3) (.ofNat 4) (.negSucc m) k = true := by kernel_rfl
theorem zb3_4 (n m : Nat) : rk (.ofNat 3) (.ofNat 4) (.ofNat n) (.negSucc m) = true := by kernel_rfl
theorem zc3_4 (m n : Nat) : rk (.ofNat 3) (.ofNat 4) (.ofNat (m + 4)) (.ofNat n) = true := by kernel_rfl
theorem zd3_4_0 (m : Nat) : rk (.ofNat 3) (.ofNat 4) (.ofNat 0) (.ofNat (m + 6)) = true := by kernel_rfl
theorem zd3_4_1 (m : Nat) : rk (.ofNat 3) (.ofNat 4) (.ofNat 1) (.ofNat (m + 6)) = true := by kernel_rfl
theorem zd3_4_2 (m : Nat) : rk (.ofNat 3) (.ofNat 4) (.ofNat 2) (.ofNat (m + 6)) = true := by kernel_rfl
theorem zd3_4_3 (m : Nat) : rk (.ofNat 3) (.ofNat 4) (.ofNat 3) (.ofNat (m + 6)) = true := by kernel_rfl
theorem ya4 (m : Nat) (i k : Int) : rk (.ofNat 4) (.negSucc m) i k = true := by kernel_rfl
theorem yb4 (m : Nat) (i k : Int) : rk (.ofNat 4) (.ofNat (m + 5)) i k = true := by kernel_rfl
theorem za4_0 (m : Nat) (k : Int) : rk (.ofNat 4) (.ofNat 0) (.negSucc m) k = true := by kernel_rfl
theorem zb4_0 (n m : Nat) : rk (.ofNat 4) (.ofNat 0) (.ofNat n) (.negSucc m) = true := by kernel_rfl
theorem zc4_0 (m n : Nat) : rk (.ofNat 4) (.ofNat 0) (.ofNat (m + 6)) (.ofNat n) = true := by kernel_rfl
theorem zd4_0_0 (m : Nat) : rk (.ofNat 4) (.ofNat 0) (.ofNat 0) (.ofNat (m + 1)) = true := by kernel_rfl
theorem zd4_0_1 (m : Nat) : rk (.ofNat 4) (.ofNat 0) (.ofNat 1) (.ofNat (m + 1)) = true := by kernel_rfl
theorem zd4_0_2 (m : Nat) : rk (.ofNat 4) (.ofNat 0) (.ofNat 2) (.ofNat (m + 1)) = true := by kernel_rfl
theorem zd4_0_3 (m : Nat) : rk (.ofNat 4) (.ofNat 0) (.ofNat 3) (.ofNat (m + 1)) = true := by kernel_rfl
theorem zd4_0_4 (m : Nat) : rk (.ofNat 4) (.ofNat 0) (.ofNat 4) (.ofNat (m + 1)) = true := by kernel_rfl
theorem zd4_0_5 (m : Nat) : rk (.ofNat 4) (.ofNat 0) (.ofNat 5) (.ofNat (m + 1)) = true := by kernel_rfl
theorem za4_1 (m : Nat) (k : Int) : rk (.ofNat 4) (.ofNat 1) (.negSucc m) k = true := by kernel_rfl
theorem zb4_1 (n m : Nat) : rk (.ofNat 4) (.ofNat 1) (.ofNat n) (.negSucc m) = true := by kernel_rfl
theorem zc4_1 (m n : Nat) : rk (.ofNat 4) (.ofNat 1) (.ofNat (m + 6)) (.ofNat n) = true := by kernel_rfl
theorem zd4_1_0 (m : Nat) : rk (.ofNat 4) (.ofNat 1) (.ofNat 0) (.ofNat (m + 1)) = true := by kernel_rfl
theorem zd4_1_1 (m : Nat) : rk (.ofNat 4) (.ofNat 1) (.ofNat 1) (.ofNat (m + 1)) = true := by kernel_rfl
theorem zd4_1_2 (m : Nat) : rk (.ofNat 4) (.ofNat 1) (.ofNat 2) (.ofNat (m + 1)) = true := by kernel_rfl
theorem zd4_1_3 (m : Nat) : rk (.ofNat 4) (.ofNat 1) (.ofNat 3) (.ofNat (m + 1)) = true := by kernel_rfl
theorem zd4_1_4 (m : Nat) : rk (.ofNat 4) (.ofNat 1) (.ofNat 4) (.ofNat (m + 1)) = true := by kernel_rfl
theorem zd4_1_5 (m : Nat) : rk (.ofNat 4) (.ofNat 1) (.ofNat 5) (.ofNat (m + 1)) = true := by kernel_rfl
theorem za4_2 (m : Nat) (k : Int) : rk (.ofNat 4) (.ofNat 2) (.negSucc m) k = true := by kernel_rfl
theorem zb4_2 (n m : Nat) : rk (.ofNat 4) (.ofNat 2) (.ofNat n) (.negSucc m) = true := by kernel_rfl
theorem zc4_2 (m n : Nat) : rk (.ofNat 4) (.ofNat 2) (.ofNat (m + 6)) (.ofNat n) = true := by kernel_rfl
theorem zd4_2_0 (m : Nat) : rk (.ofNat 4) (.ofNat 2) (.ofNat 0) (.ofNat (m + 6)) = true := by kernel_rfl
theorem zd4_2_1 (m : Nat) : rk (.ofNat 4) (.ofNat 2) (.ofNat 1) (.ofNat (m + 6)) = true := by kernel_rfl
theorem zd4_2_2 (m : Nat) : rk (.ofNat 4) (.ofNat 2) (.ofNat 2) (.ofNat (m + 6)) = true := by kernel_rfl
theorem zd4_2_3 (m : Nat) : rk (.ofNat 4) (.ofNat 2) (.ofNat 3) (.ofNat (m + 6)) = true := by kernel_rfl
theorem zd4_2_4 (m : Nat) : rk (.ofNat 4) (.ofNat 2) (.ofNat 4) (.ofNat (m + 6)) = true := by kernel_rfl
theorem zd4_2_5 (m : Nat) : rk (.ofNat 4) (.ofNat 2) (.ofNat 5) (.ofNat (m + 6)) = true := by kernel_rfl
theorem za4_3 (m : Nat) (k : Int) : rk (.ofNat 4) (.ofNat 3) (.negSucc m) k = true := by kernel_rfl
theorem zb4_3 (n m : Nat) : rk (.ofNat 4) (.ofNat 3) (.ofNat n) (.negSucc m) = true := by kernel_rfl
theorem zc4_3 (m n : Nat) : rk (.ofNat 4) (.ofNat 3) (.ofNat (m + 6)) (.ofNat n) = true := by kernel_rfl
theorem zd4_3_0 (m : Nat) : rk (.ofNat 4) (.ofNat 3) (.ofNat 0) (.ofNat (m + 4)) = true := by kernel_rfl
theorem zd4_3_1 (m : Nat) : rk (.ofNat 4) (.ofNat 3) (.ofNat 1) (.ofNat (m + 4)) = true := by kernel_rfl
theorem zd4_3_2 (m : Nat) : rk (.ofNat 4) (.ofNat 3) (.ofNat 2) (.ofNat (m + 4)) = true := by kernel_rfl
theorem zd4_3_3 (m : Nat) : rk (.ofNat 4) (.ofNat 3) (.ofNat 3) (.ofNat (m + 4)) = true := by kernel_rfl
theorem zd4_3_4 (m : Nat) : rk (.ofNat 4) (.ofNat 3) (.ofNat 4) (.ofNat (m + 4)) = true := by kernel_rfl
theorem zd4_3_5 (m : Nat) : rk (.ofNat 4) (.ofNat 3) (.ofNat 5) (.ofNat (m + 4)) = true := by kernel_rfl
theorem za4_4 (m : Nat) (k : Int) : rk (.ofNat 4) (.ofNat 4) (.negSucc m) k = true := by kernel_rfl
theorem zb4_4 (n m : Nat) : rk (.ofNat 4) (.ofNat 4) (.ofNat n) (.negSucc m) = true := by kernel_rfl
theorem zc4_4 (m n : Nat) : rk (.ofNat 4) (.ofNat 4) (.ofNat (m + 6)) (.ofNat n) = true := by kernel_rfl
theorem zd4_4_0 (m : Nat) : rk (.ofNat 4) (.ofNat 4) (.ofNat 0) (.ofNat (m + 6)) = true := by kernel_rfl
theorem zd4_4_1 (m : Nat) : rk (.ofNat 4) (.ofNat 4) (.ofNat 1) (.ofNat (m + 6)) = true := by kernel_rfl
theorem zd4_4_2 (m : Nat) : rk (.ofNat 4) (.ofNat 4) (.ofNat 2) (.ofNat (m + 6)) = true := by kernel_rfl
theorem zd4_4_3 (m : Nat) : rk (.ofNat 4) (.ofNat 4) (.ofNat 3) (.ofNat (m + 6)) = true := by kernel_rfl
theorem zd4_4_4 (m : Nat) : rk (.ofNat 4) (.ofNat 4) (.ofNat 4) (.ofNat (m + 6)) = true := by kernel_rfl
theorem zd4_4_5 (m : Nat) : rk (.ofNat 4) (.ofNat 4) (.ofNat 5) (.ofNat (m + 6)) = true := by kernel_rfl
end Go.Proofs.YtachednafdmmaaaGreatDoor.AI
