/- ParseRanks: every input. -/
import Derived.Test.YtachednafdmmaaaGreatDoorRK0
import Derived.Test.YtachednafdmmaaaGreatDoorRK1
import Derived.Test.YtachednafdmmaaaGreatDoorRK2
import Derived.Test.YtachednafdmmaaaGreatDoorRK3
import Derived.Test.YtachednafdmmaaaGreatDoorRK4
import Derived.Test.YtachednafdmmaaaGreatDoorRK5
import Derived.Test.YtachednafdmmaaaGreatDoorRK6
import Derived.Test.YtachednafdmmaaaGreatDoorRK7
import Derived.Test.YtachednafdmmaaaGreatDoorRK8
import Derived.KernelRfl
namespace Go.Proofs.YtachednafdmmaaaGreatDoor.AI
open Go Go.RowKit
set_option linter.unusedVariables false
set_option linter.unusedSimpArgs false
theorem w0_0 : ∀ (i k : Int), rk (.ofNat 0) (.ofNat 0) i k = true
  | .negSucc m, k => za0_0 m k
  | .ofNat n, .negSucc m => zb0_0 n m
  | .ofNat 0, .ofNat 0 => of_all run0 (q := (0, 0, 0, 0)) rfl
  | .ofNat 0, .ofNat (m + 1) => zd0_0_0 m
  | .ofNat (m + 1), .ofNat n => zc0_0 m n
theorem w0_1 : ∀ (i k : Int), rk (.ofNat 0) (.ofNat 1) i k = true
  | .negSucc m, k => za0_1 m k
  | .ofNat n, .negSucc m => zb0_1 n m
  | .ofNat 0, .ofNat 0 => of_all run0 (q := (0, 1, 0, 0)) rfl
  | .ofNat 0, .ofNat (m + 1) => zd0_1_0 m
  | .ofNat (m + 1), .ofNat n => zc0_1 m n
theorem w0_2 : ∀ (i k : Int), rk (.ofNat 0) (.ofNat 2) i k = true
  | .negSucc m, k => za0_2 m k
  | .ofNat n, .negSucc m => zb0_2 n m
  | .ofNat 0, .ofNat 0 => of_all run0 (q := (0, 2, 0, 0)) rfl
  | .ofNat 0, .ofNat 1 => of_all run0 (q := (0, 2, 0, 1)) rfl
  | .ofNat 0, .ofNat 2 => of_all run0 (q := (0, 2, 0, 2)) rfl
  | .ofNat 0, .ofNat 3 => of_all run0 (q := (0, 2, 0, 3)) rfl
  | .ofNat 0, .ofNat 4 => of_all run1 (q := (0, 2, 0, 4)) rfl
  | .ofNat 0, .ofNat 5 => of_all run1 (q := (0, 2, 0, 5)) rfl
  | .ofNat 0, .ofNat (m + 6) => zd0_2_0 m
  | .ofNat (m + 1), .ofNat n => zc0_2 m n
theorem w0_3 : ∀ (i k : Int), rk (.ofNat 0) (.ofNat 3) i k = true
  | .negSucc m, k => za0_3 m k
  | .ofNat n, .negSucc m => zb0_3 n m
  | .ofNat 0, .ofNat 0 => of_all run1 (q := (0, 3, 0, 0)) rfl
  | .ofNat 0, .ofNat 1 => of_all run1 (q := (0, 3, 0, 1)) rfl
  | .ofNat 0, .ofNat 2 => of_all run1 (q := (0, 3, 0, 2)) rfl
  | .ofNat 0, .ofNat 3 => of_all run1 (q := (0, 3, 0, 3)) rfl
  | .ofNat 0, .ofNat (m + 4) => zd0_3_0 m
  | .ofNat (m + 1), .ofNat n => zc0_3 m n
theorem w0_4 : ∀ (i k : Int), rk (.ofNat 0) (.ofNat 4) i k = true
  | .negSucc m, k => za0_4 m k
  | .ofNat n, .negSucc m => zb0_4 n m
  | .ofNat 0, .ofNat 0 => of_all run2 (q := (0, 4, 0, 0)) rfl
  | .ofNat 0, .ofNat 1 => of_all run2 (q := (0, 4, 0, 1)) rfl
  | .ofNat 0, .ofNat 2 => of_all run2 (q := (0, 4, 0, 2)) rfl
  | .ofNat 0, .ofNat 3 => of_all run2 (q := (0, 4, 0, 3)) rfl
  | .ofNat 0, .ofNat 4 => of_all run2 (q := (0, 4, 0, 4)) rfl
  | .ofNat 0, .ofNat 5 => of_all run2 (q := (0, 4, 0, 5)) rfl
  | .ofNat 0, .ofNat (m + 6) => zd0_4_0 m
  | .ofNat (m + 1), .ofNat n => zc0_4 m n
theorem w1_0 : ∀ (i k : Int), rk (.ofNat 1) (.ofNat 0) i k = true
  | .negSucc m, k => za1_0 m k
  | .ofNat n, .negSucc m => zb1_0 n m
  | .ofNat 0, .ofNat 0 => of_all run3 (q := (1, 0, 0, 0)) rfl
  | .ofNat 0, .ofNat (m + 1) => zd1_0_0 m
  | .ofNat (m + 1), .ofNat n => zc1_0 m n
theorem w1_1 : ∀ (i k : Int), rk (.ofNat 1) (.ofNat 1) i k = true
  | .negSucc m, k => za1_1 m k
  | .ofNat n, .negSucc m => zb1_1 n m
  | .ofNat 0, .ofNat 0 => of_all run3 (q := (1, 1, 0, 0)) rfl
  | .ofNat 0, .ofNat (m + 1) => zd1_1_0 m
  | .ofNat (m + 1), .ofNat n => zc1_1 m n
theorem w1_2 : ∀ (i k : Int), rk (.ofNat 1) (.ofNat 2) i k = true
  | .negSucc m, k => za1_2 m k
  | .ofNat n, .negSucc m => zb1_2 n m
  | .ofNat 0, .ofNat 0 => of_all run3 (q := (1, 2, 0, 0)) rfl
  | .ofNat 0, .ofNat 1 => of_all run3 (q := (1, 2, 0, 1)) rfl
  | .ofNat 0, .ofNat 2 => of_all run3 (q := (1, 2, 0, 2)) rfl
  | .ofNat 0, .ofNat 3 => of_all run3 (q := (1, 2, 0, 3)) rfl
  | .ofNat 0, .ofNat 4 => of_all run4 (q := (1, 2, 0, 4)) rfl
  | .ofNat 0, .ofNat 5 => of_all run4 (q := (1, 2, 0, 5)) rfl
  | .ofNat 0, .ofNat (m + 6) => zd1_2_0 m
  | .ofNat (m + 1), .ofNat n => zc1_2 m n
theorem w1_3 : ∀ (i k : Int), rk (.ofNat 1) (.ofNat 3) i k = true
  | .negSucc m, k => za1_3 m k
  | .ofNat n, .negSucc m => zb1_3 n m
  | .ofNat 0, .ofNat 0 => of_all run4 (q := (1, 3, 0, 0)) rfl
  | .ofNat 0, .ofNat 1 => of_all run4 (q := (1, 3, 0, 1)) rfl
  | .ofNat 0, .ofNat 2 => of_all run4 (q := (1, 3, 0, 2)) rfl
  | .ofNat 0, .ofNat 3 => of_all run4 (q := (1, 3, 0, 3)) rfl
  | .ofNat 0, .ofNat (m + 4) => zd1_3_0 m
  | .ofNat (m + 1), .ofNat n => zc1_3 m n
theorem w1_4 : ∀ (i k : Int), rk (.ofNat 1) (.ofNat 4) i k = true
  | .negSucc m, k => za1_4 m k
  | .ofNat n, .negSucc m => zb1_4 n m
  | .ofNat 0, .ofNat 0 => of_all run5 (q := (1, 4, 0, 0)) rfl
  | .ofNat 0, .ofNat 1 => of_all run5 (q := (1, 4, 0, 1)) rfl
  | .ofNat 0, .ofNat 2 => of_all run5 (q := (1, 4, 0, 2)) rfl
  | .ofNat 0, .ofNat 3 => of_all run5 (q := (1, 4, 0, 3)) rfl
  | .ofNat 0, .ofNat 4 => of_all run5 (q := (1, 4, 0, 4)) rfl
  | .ofNat 0, .ofNat 5 => of_all run5 (q := (1, 4, 0, 5)) rfl
  | .ofNat 0, .ofNat (m + 6) => zd1_4_0 m
  | .ofNat (m + 1), .ofNat n => zc1_4 m n
theorem w2_0 : ∀ (i k : Int), rk (.ofNat 2) (.ofNat 0) i k = true
  | .negSucc m, k => za2_0 m k
  | .ofNat n, .negSucc m => zb2_0 n m
  | .ofNat 0, .ofNat 0 => of_all run6 (q := (2, 0, 0, 0)) rfl
  | .ofNat 0, .ofNat (m + 1) => zd2_0_0 m
  | .ofNat 1, .ofNat 0 => of_all run6 (q := (2, 0, 1, 0)) rfl
  | .ofNat 1, .ofNat (m + 1) => zd2_0_1 m
  | .ofNat 2, .ofNat 0 => of_all run6 (q := (2, 0, 2, 0)) rfl
  | .ofNat 2, .ofNat (m + 1) => zd2_0_2 m
  | .ofNat 3, .ofNat 0 => of_all run6 (q := (2, 0, 3, 0)) rfl
  | .ofNat 3, .ofNat (m + 1) => zd2_0_3 m
  | .ofNat 4, .ofNat 0 => of_all run6 (q := (2, 0, 4, 0)) rfl
  | .ofNat 4, .ofNat (m + 1) => zd2_0_4 m
  | .ofNat 5, .ofNat 0 => of_all run6 (q := (2, 0, 5, 0)) rfl
  | .ofNat 5, .ofNat (m + 1) => zd2_0_5 m
  | .ofNat (m + 6), .ofNat n => zc2_0 m n
theorem w2_1 : ∀ (i k : Int), rk (.ofNat 2) (.ofNat 1) i k = true
  | .negSucc m, k => za2_1 m k
  | .ofNat n, .negSucc m => zb2_1 n m
  | .ofNat 0, .ofNat 0 => of_all run7 (q := (2, 1, 0, 0)) rfl
  | .ofNat 0, .ofNat (m + 1) => zd2_1_0 m
  | .ofNat 1, .ofNat 0 => of_all run7 (q := (2, 1, 1, 0)) rfl
  | .ofNat 1, .ofNat (m + 1) => zd2_1_1 m
  | .ofNat 2, .ofNat 0 => of_all run7 (q := (2, 1, 2, 0)) rfl
  | .ofNat 2, .ofNat (m + 1) => zd2_1_2 m
  | .ofNat 3, .ofNat 0 => of_all run7 (q := (2, 1, 3, 0)) rfl
  | .ofNat 3, .ofNat (m + 1) => zd2_1_3 m
  | .ofNat 4, .ofNat 0 => of_all run7 (q := (2, 1, 4, 0)) rfl
  | .ofNat 4, .ofNat (m + 1) => zd2_1_4 m
  | .ofNat 5, .ofNat 0 => of_all run7 (q := (2, 1, 5, 0)) rfl
  | .ofNat 5, .ofNat (m + 1) => zd2_1_5 m
  | .ofNat (m + 6), .ofNat n => zc2_1 m n
theorem w2_2 : ∀ (i k : Int), rk (.ofNat 2) (.ofNat 2) i k = true
  | .negSucc m, k => za2_2 m k
  | .ofNat n, .negSucc m => zb2_2 n m
  | .ofNat 0, .ofNat 0 => of_all run8 (q := (2, 2, 0, 0)) rfl
  | .ofNat 0, .ofNat 1 => of_all run8 (q := (2, 2, 0, 1)) rfl
  | .ofNat 0, .ofNat 2 => of_all run8 (q := (2, 2, 0, 2)) rfl
  | .ofNat 0, .ofNat 3 => of_all run8 (q := (2, 2, 0, 3)) rfl
  | .ofNat 0, .ofNat 4 => of_all run8 (q := (2, 2, 0, 4)) rfl
  | .ofNat 0, .ofNat 5 => of_all run8 (q := (2, 2, 0, 5)) rfl
  | .ofNat 0, .ofNat (m + 6) => zd2_2_0 m
  | .ofNat 1, .ofNat 0 => of_all run9 (q := (2, 2, 1, 0)) rfl
  | .ofNat 1, .ofNat 1 => of_all run9 (q := (2, 2, 1, 1)) rfl
  | .ofNat 1, .ofNat 2 => of_all run9 (q := (2, 2, 1, 2)) rfl
  | .ofNat 1, .ofNat 3 => of_all run9 (q := (2, 2, 1, 3)) rfl
  | .ofNat 1, .ofNat 4 => of_all run9 (q := (2, 2, 1, 4)) rfl
  | .ofNat 1, .ofNat 5 => of_all run9 (q := (2, 2, 1, 5)) rfl
  | .ofNat 1, .ofNat (m + 6) => zd2_2_1 m
  | .ofNat 2, .ofNat 0 => of_all run10 (q := (2, 2, 2, 0)) rfl
  | .ofNat 2, .ofNat 1 => of_all run10 (q := (2, 2, 2, 1)) rfl
  | .ofNat 2, .ofNat 2 => of_all run10 (q := (2, 2, 2, 2)) rfl
  | .ofNat 2, .ofNat 3 => of_all run10 (q := (2, 2, 2, 3)) rfl
  | .ofNat 2, .ofNat 4 => of_all run10 (q := (2, 2, 2, 4)) rfl
  | .ofNat 2, .ofNat 5 => of_all run10 (q := (2, 2, 2, 5)) rfl
  | .ofNat 2, .ofNat (m + 6) => zd2_2_2 m
  | .ofNat 3, .ofNat 0 => of_all run11 (q := (2, 2, 3, 0)) rfl
  | .ofNat 3, .ofNat 1 => of_all run11 (q := (2, 2, 3, 1)) rfl
  | .ofNat 3, .ofNat 2 => of_all run11 (q := (2, 2, 3, 2)) rfl
  | .ofNat 3, .ofNat 3 => of_all run11 (q := (2, 2, 3, 3)) rfl
  | .ofNat 3, .ofNat 4 => of_all run11 (q := (2, 2, 3, 4)) rfl
  | .ofNat 3, .ofNat 5 => of_all run11 (q := (2, 2, 3, 5)) rfl
  | .ofNat 3, .ofNat (m + 6) => zd2_2_3 m
  | .ofNat 4, .ofNat 0 => of_all run12 (q := (2, 2, 4, 0)) rfl
  | .ofNat 4, .ofNat 1 => of_all run12 (q := (2, 2, 4, 1)) rfl
  | .ofNat 4, .ofNat 2 => of_all run12 (q := (2, 2, 4, 2)) rfl
  | .ofNat 4, .ofNat 3 => of_all run12 (q := (2, 2, 4, 3)) rfl
  | .ofNat 4, .ofNat 4 => of_all run12 (q := (2, 2, 4, 4)) rfl
  | .ofNat 4, .ofNat 5 => of_all run12 (q := (2, 2, 4, 5)) rfl
  | .ofNat 4, .ofNat (m + 6) => zd2_2_4 m
  | .ofNat 5, .ofNat 0 => of_all run13 (q := (2, 2, 5, 0)) rfl
  | .ofNat 5, .ofNat 1 => of_all run13 (q := (2, 2, 5, 1)) rfl
  | .ofNat 5, .ofNat 2 => of_all run13 (q := (2, 2, 5, 2)) rfl
  | .ofNat 5, .ofNat 3 => of_all run13 (q := (2, 2, 5, 3)) rfl
  | .ofNat 5, .ofNat 4 => of_all run13 (q := (2, 2, 5, 4)) rfl
  | .ofNat 5, .ofNat 5 => of_all run13 (q := (2, 2, 5, 5)) rfl
  | .ofNat 5, .ofNat (m + 6) => zd2_2_5 m
  | .ofNat (m + 6), .ofNat n => zc2_2 m n
theorem w2_3 : ∀ (i k : Int), rk (.ofNat 2) (.ofNat 3) i k = true
  | .negSucc m, k => za2_3 m k
  | .ofNat n, .negSucc m => zb2_3 n m
  | .ofNat 0, .ofNat 0 => of_all run14 (q := (2, 3, 0, 0)) rfl
  | .ofNat 0, .ofNat 1 => of_all run14 (q := (2, 3, 0, 1)) rfl
  | .ofNat 0, .ofNat 2 => of_all run14 (q := (2, 3, 0, 2)) rfl
  | .ofNat 0, .ofNat 3 => of_all run14 (q := (2, 3, 0, 3)) rfl
  | .ofNat 0, .ofNat (m + 4) => zd2_3_0 m
  | .ofNat 1, .ofNat 0 => of_all run14 (q := (2, 3, 1, 0)) rfl
  | .ofNat 1, .ofNat 1 => of_all run14 (q := (2, 3, 1, 1)) rfl
  | .ofNat 1, .ofNat 2 => of_all run15 (q := (2, 3, 1, 2)) rfl
  | .ofNat 1, .ofNat 3 => of_all run15 (q := (2, 3, 1, 3)) rfl
  | .ofNat 1, .ofNat (m + 4) => zd2_3_1 m
  | .ofNat 2, .ofNat 0 => of_all run15 (q := (2, 3, 2, 0)) rfl
  | .ofNat 2, .ofNat 1 => of_all run15 (q := (2, 3, 2, 1)) rfl
  | .ofNat 2, .ofNat 2 => of_all run15 (q := (2, 3, 2, 2)) rfl
  | .ofNat 2, .ofNat 3 => of_all run15 (q := (2, 3, 2, 3)) rfl
  | .ofNat 2, .ofNat (m + 4) => zd2_3_2 m
  | .ofNat 3, .ofNat 0 => of_all run16 (q := (2, 3, 3, 0)) rfl
  | .ofNat 3, .ofNat 1 => of_all run16 (q := (2, 3, 3, 1)) rfl
  | .ofNat 3, .ofNat 2 => of_all run16 (q := (2, 3, 3, 2)) rfl
  | .ofNat 3, .ofNat 3 => of_all run16 (q := (2, 3, 3, 3)) rfl
  | .ofNat 3, .ofNat (m + 4) => zd2_3_3 m
  | .ofNat 4, .ofNat 0 => of_all run16 (q := (2, 3, 4, 0)) rfl
  | .ofNat 4, .ofNat 1 => of_all run16 (q := (2, 3, 4, 1)) rfl
  | .ofNat 4, .ofNat 2 => of_all run17 (q := (2, 3, 4, 2)) rfl
  | .ofNat 4, .ofNat 3 => of_all run17 (q := (2, 3, 4, 3)) rfl
  | .ofNat 4, .ofNat (m + 4) => zd2_3_4 m
  | .ofNat 5, .ofNat 0 => of_all run17 (q := (2, 3, 5, 0)) rfl
  | .ofNat 5, .ofNat 1 => of_all run17 (q := (2, 3, 5, 1)) rfl
  | .ofNat 5, .ofNat 2 => of_all run17 (q := (2, 3, 5, 2)) rfl
  | .ofNat 5, .ofNat 3 => of_all run17 (q := (2, 3, 5, 3)) rfl
  | .ofNat 5, .ofNat (m + 4) => zd2_3_5 m
  | .ofNat (m + 6), .ofNat n => zc2_3 m n
theorem w2_4 : ∀ (i k : Int), rk (.ofNat 2) (.ofNat 4) i k = true
  | .negSucc m, k => za2_4 m k
  | .ofNat n, .negSucc m => zb2_4 n m
  | .ofNat 0, .ofNat 0 => of_all run18 (q := (2, 4, 0, 0)) rfl
  | .ofNat 0, .ofNat 1 => of_all run18 (q := (2, 4, 0, 1)) rfl
  | .ofNat 0, .ofNat 2 => of_all run18 (q := (2, 4, 0, 2)) rfl
  | .ofNat 0, .ofNat 3 => of_all run18 (q := (2, 4, 0, 3)) rfl
  | .ofNat 0, .ofNat 4 => of_all run18 (q := (2, 4, 0, 4)) rfl
  | .ofNat 0, .ofNat 5 => of_all run18 (q := (2, 4, 0, 5)) rfl
  | .ofNat 0, .ofNat (m + 6) => zd2_4_0 m
  | .ofNat 1, .ofNat 0 => of_all run19 (q := (2, 4, 1, 0)) rfl
  | .ofNat 1, .ofNat 1 => of_all run19 (q := (2, 4, 1, 1)) rfl
  | .ofNat 1, .ofNat 2 => of_all run19 (q := (2, 4, 1, 2)) rfl
  | .ofNat 1, .ofNat 3 => of_all run19 (q := (2, 4, 1, 3)) rfl
  | .ofNat 1, .ofNat 4 => of_all run19 (q := (2, 4, 1, 4)) rfl
  | .ofNat 1, .ofNat 5 => of_all run19 (q := (2, 4, 1, 5)) rfl
  | .ofNat 1, .ofNat (m + 6) => zd2_4_1 m
  | .ofNat 2, .ofNat 0 => of_all run20 (q := (2, 4, 2, 0)) rfl
  | .ofNat 2, .ofNat 1 => of_all run20 (q := (2, 4, 2, 1)) rfl
  | .ofNat 2, .ofNat 2 => of_all run20 (q := (2, 4, 2, 2)) rfl
  | .ofNat 2, .ofNat 3 => of_all run20 (q := (2, 4, 2, 3)) rfl
  | .ofNat 2, .ofNat 4 => of_all run20 (q := (2, 4, 2, 4)) rfl
  | .ofNat 2, .ofNat 5 => of_all run20 (q := (2, 4, 2, 5)) rfl
  | .ofNat 2, .ofNat (m + 6) => zd2_4_2 m
  | .ofNat 3, .ofNat 0 => of_all run21 (q := (2, 4, 3, 0)) rfl
  | .ofNat 3, .ofNat 1 => of_all run21 (q := (2, 4, 3, 1)) rfl
  | .ofNat 3, .ofNat 2 => of_all run21 (q := (2, 4, 3, 2)) rfl
  | .ofNat 3, .ofNat 3 => of_all run21 (q := (2, 4, 3, 3)) rfl
  | .ofNat 3, .ofNat 4 => of_all run21 (q := (2, 4, 3, 4)) rfl
  | .ofNat 3, .ofNat 5 => of_all run21 (q := (2, 4, 3, 5)) rfl
  | .ofNat 3, .ofNat (m + 6) => zd2_4_3 m
  | .ofNat 4, .ofNat 0 => of_all run22 (q := (2, 4, 4, 0)) rfl
  | .ofNat 4, .ofNat 1 => of_all run22 (q := (2, 4, 4, 1)) rfl
  | .ofNat 4, .ofNat 2 => of_all run22 (q := (2, 4, 4, 2)) rfl
  | .ofNat 4, .ofNat 3 => of_all run22 (q := (2, 4, 4, 3)) rfl
  | .ofNat 4, .ofNat 4 => of_all run22 (q := (2, 4, 4, 4)) rfl
  | .ofNat 4, .ofNat 5 => of_all run22 (q := (2, 4, 4, 5)) rfl
  | .ofNat 4, .ofNat (m + 6) => zd2_4_4 m
  | .ofNat 5, .ofNat 0 => of_all run23 (q := (2, 4, 5, 0)) rfl
  | .ofNat 5, .ofNat 1 => of_all run23 (q := (2, 4, 5, 1)) rfl
  | .ofNat 5, .ofNat 2 => of_all run23 (q := (2, 4, 5, 2)) rfl
  | .ofNat 5, .ofNat 3 => of_all run23 (q := (2, 4, 5, 3)) rfl
  | .ofNat 5, .ofNat 4 => of_all run23 (q := (2, 4, 5, 4)) rfl
  | .ofNat 5, .ofNat 5 => of_all run23 (q := (2, 4, 5, 5)) rfl
  | .ofNat 5, .ofNat (m + 6) => zd2_4_5 m
  | .ofNat (m + 6), .ofNat n => zc2_4 m n
theorem w3_0 : ∀ (i k : Int), rk (.ofNat 3) (.ofNat 0) i k = true
  | .negSucc m, k => za3_0 m k
  | .ofNat n, .negSucc m => zb3_0 n m
  | .ofNat 0, .ofNat 0 => of_all run24 (q := (3, 0, 0, 0)) rfl
  | .ofNat 0, .ofNat (m + 1) => zd3_0_0 m
  | .ofNat 1, .ofNat 0 => of_all run24 (q := (3, 0, 1, 0)) rfl
  | .ofNat 1, .ofNat (m + 1) => zd3_0_1 m
  | .ofNat 2, .ofNat 0 => of_all run24 (q := (3, 0, 2, 0)) rfl
  | .ofNat 2, .ofNat (m + 1) => zd3_0_2 m
  | .ofNat 3, .ofNat 0 => of_all run24 (q := (3, 0, 3, 0)) rfl
  | .ofNat 3, .ofNat (m + 1) => zd3_0_3 m
  | .ofNat (m + 4), .ofNat n => zc3_0 m n
theorem w3_1 : ∀ (i k : Int), rk (.ofNat 3) (.ofNat 1) i k = true
  | .negSucc m, k => za3_1 m k
  | .ofNat n, .negSucc m => zb3_1 n m
  | .ofNat 0, .ofNat 0 => of_all run24 (q := (3, 1, 0, 0)) rfl
  | .ofNat 0, .ofNat (m + 1) => zd3_1_0 m
  | .ofNat 1, .ofNat 0 => of_all run24 (q := (3, 1, 1, 0)) rfl
  | .ofNat 1, .ofNat (m + 1) => zd3_1_1 m
  | .ofNat 2, .ofNat 0 => of_all run25 (q := (3, 1, 2, 0)) rfl
  | .ofNat 2, .ofNat (m + 1) => zd3_1_2 m
  | .ofNat 3, .ofNat 0 => of_all run25 (q := (3, 1, 3, 0)) rfl
  | .ofNat 3, .ofNat (m + 1) => zd3_1_3 m
  | .ofNat (m + 4), .ofNat n => zc3_1 m n
theorem w3_2 : ∀ (i k : Int), rk (.ofNat 3) (.ofNat 2) i k = true
  | .negSucc m, k => za3_2 m k
  | .ofNat n, .negSucc m => zb3_2 n m
  | .ofNat 0, .ofNat 0 => of_all run25 (q := (3, 2, 0, 0)) rfl
  | .ofNat 0, .ofNat 1 => of_all run25 (q := (3, 2, 0, 1)) rfl
  | .ofNat 0, .ofNat 2 => of_all run25 (q := (3, 2, 0, 2)) rfl
  | .ofNat 0, .ofNat 3 => of_all run25 (q := (3, 2, 0, 3)) rfl
  | .ofNat 0, .ofNat 4 => of_all run26 (q := (3, 2, 0, 4)) rfl
  | .ofNat 0, .ofNat 5 => of_all run26 (q := (3, 2, 0, 5)) rfl
  | .ofNat 0, .ofNat (m + 6) => zd3_2_0 m
  | .ofNat 1, .ofNat 0 => of_all run26 (q := (3, 2, 1, 0)) rfl
  | .ofNat 1, .ofNat 1 => of_all run26 (q := (3, 2, 1, 1)) rfl
  | .ofNat 1, .ofNat 2 => of_all run26 (q := (3, 2, 1, 2)) rfl
  | .ofNat 1, .ofNat 3 => of_all run26 (q := (3, 2, 1, 3)) rfl
  | .ofNat 1, .ofNat 4 => of_all run27 (q := (3, 2, 1, 4)) rfl
  | .ofNat 1, .ofNat 5 => of_all run27 (q := (3, 2, 1, 5)) rfl
  | .ofNat 1, .ofNat (m + 6) => zd3_2_1 m
  | .ofNat 2, .ofNat 0 => of_all run27 (q := (3, 2, 2, 0)) rfl
  | .ofNat 2, .ofNat 1 => of_all run27 (q := (3, 2, 2, 1)) rfl
  | .ofNat 2, .ofNat 2 => of_all run27 (q := (3, 2, 2, 2)) rfl
  | .ofNat 2, .ofNat 3 => of_all run27 (q := (3, 2, 2, 3)) rfl
  | .ofNat 2, .ofNat 4 => of_all run28 (q := (3, 2, 2, 4)) rfl
  | .ofNat 2, .ofNat 5 => of_all run28 (q := (3, 2, 2, 5)) rfl
  | .ofNat 2, .ofNat (m + 6) => zd3_2_2 m
  | .ofNat 3, .ofNat 0 => of_all run28 (q := (3, 2, 3, 0)) rfl
  | .ofNat 3, .ofNat 1 => of_all run28 (q := (3, 2, 3, 1)) rfl
  | .ofNat 3, .ofNat 2 => of_all run28 (q := (3, 2, 3, 2)) rfl
  | .ofNat 3, .ofNat 3 => of_all run28 (q := (3, 2, 3, 3)) rfl
  | .ofNat 3, .ofNat 4 => of_all run29 (q := (3, 2, 3, 4)) rfl
  | .ofNat 3, .ofNat 5 => of_all run29 (q := (3, 2, 3, 5)) rfl
  | .ofNat 3, .ofNat (m + 6) => zd3_2_3 m
  | .ofNat (m + 4), .ofNat n => zc3_2 m n
theorem w3_3 : ∀ (i k : Int), rk (.ofNat 3) (.ofNat 3) i k = true
  | .negSucc m, k => za3_3 m k
  | .ofNat n, .negSucc m => zb3_3 n m
  | .ofNat 0, .ofNat 0 => of_all run29 (q := (3, 3, 0, 0)) rfl
  | .ofNat 0, .ofNat 1 => of_all run29 (q := (3, 3, 0, 1)) rfl
  | .ofNat 0, .ofNat 2 => of_all run29 (q := (3, 3, 0, 2)) rfl
  | .ofNat 0, .ofNat 3 => of_all run29 (q := (3, 3, 0, 3)) rfl
  | .ofNat 0, .ofNat (m + 4) => zd3_3_0 m
  | .ofNat 1, .ofNat 0 => of_all run30 (q := (3, 3, 1, 0)) rfl
  | .ofNat 1, .ofNat 1 => of_all run30 (q := (3, 3, 1, 1)) rfl
  | .ofNat 1, .ofNat 2 => of_all run30 (q := (3, 3, 1, 2)) rfl
  | .ofNat 1, .ofNat 3 => of_all run30 (q := (3, 3, 1, 3)) rfl
  | .ofNat 1, .ofNat (m + 4) => zd3_3_1 m
  | .ofNat 2, .ofNat 0 => of_all run30 (q := (3, 3, 2, 0)) rfl
  | .ofNat 2, .ofNat 1 => of_all run30 (q := (3, 3, 2, 1)) rfl
  | .ofNat 2, .ofNat 2 => of_all run31 (q := (3, 3, 2, 2)) rfl
  | .ofNat 2, .ofNat 3 => of_all run31 (q := (3, 3, 2, 3)) rfl
  | .ofNat 2, .ofNat (m + 4) => zd3_3_2 m
  | .ofNat 3, .ofNat 0 => of_all run31 (q := (3, 3, 3, 0)) rfl
  | .ofNat 3, .ofNat 1 => of_all run31 (q := (3, 3, 3, 1)) rfl
  | .ofNat 3, .ofNat 2 => of_all run31 (q := (3, 3, 3, 2)) rfl
  | .ofNat 3, .ofNat 3 => of_all run31 (q := (3, 3, 3, 3)) rfl
  | .ofNat 3, .ofNat (m + 4) => zd3_3_3 m
  | .ofNat (m + 4), .ofNat n => zc3_3 m n
theorem w3_4 : ∀ (i k : Int), rk (.ofNat 3) (.ofNat 4) i k = true
  | .negSucc m, k => za3_4 m k
  | .ofNat n, .negSucc m => zb3_4 n m
  | .ofNat 0, .ofNat 0 => of_all run32 (q := (3, 4, 0, 0)) rfl
  | .ofNat 0, .ofNat 1 => of_all run32 (q := (3, 4, 0, 1)) rfl
  | .ofNat 0, .ofNat 2 => of_all run32 (q := (3, 4, 0, 2)) rfl
  | .ofNat 0, .ofNat 3 => of_all run32 (q := (3, 4, 0, 3)) rfl
  | .ofNat 0, .ofNat 4 => of_all run32 (q := (3, 4, 0, 4)) rfl
  | .ofNat 0, .ofNat 5 => of_all run32 (q := (3, 4, 0, 5)) rfl
  | .ofNat 0, .ofNat (m + 6) => zd3_4_0 m
  | .ofNat 1, .ofNat 0 => of_all run33 (q := (3, 4, 1, 0)) rfl
  | .ofNat 1, .ofNat 1 => of_all run33 (q := (3, 4, 1, 1)) rfl
  | .ofNat 1, .ofNat 2 => of_all run33 (q := (3, 4, 1, 2)) rfl
  | .ofNat 1, .ofNat 3 => of_all run33 (q := (3, 4, 1, 3)) rfl
  | .ofNat 1, .ofNat 4 => of_all run33 (q := (3, 4, 1, 4)) rfl
  | .ofNat 1, .ofNat 5 => of_all run33 (q := (3, 4, 1, 5)) rfl
  | .ofNat 1, .ofNat (m + 6) => zd3_4_1 m
  | .ofNat 2, .ofNat 0 => of_all run34 (q := (3, 4, 2, 0)) rfl
  | .ofNat 2, .ofNat 1 => of_all run34 (q := (3, 4, 2, 1)) rfl
  | .ofNat 2, .ofNat 2 => of_all run34 (q := (3, 4, 2, 2)) rfl
  | .ofNat 2, .ofNat 3 => of_all run34 (q := (3, 4, 2, 3)) rfl
  | .ofNat 2, .ofNat 4 => of_all run34 (q := (3, 4, 2, 4)) rfl
  | .ofNat 2, .ofNat 5 => of_all run34 (q := (3, 4, 2, 5)) rfl
  | .ofNat 2, .ofNat (m + 6) => zd3_4_2 m
  | .ofNat 3, .ofNat 0 => of_all run35 (q := (3, 4, 3, 0)) rfl
  | .ofNat 3, .ofNat 1 => of_all run35 (q := (3, 4, 3, 1)) rfl
  | .ofNat 3, .ofNat 2 => of_all run35 (q := (3, 4, 3, 2)) rfl
  | .ofNat 3, .ofNat 3 => of_all run35 (q := (3, 4, 3, 3)) rfl
  | .ofNat 3, .ofNat 4 => of_all run35 (q := (3, 4, 3, 4)) rfl
  | .ofNat 3, .ofNat 5 => of_all run35 (q := (3, 4, 3, 5)) rfl
  | .ofNat 3, .ofNat (m + 6) => zd3_4_3 m
  | .ofNat (m + 4), .ofNat n => zc3_4 m n
theorem w4_0 : ∀ (i k : Int), rk (.ofNat 4) (.ofNat 0) i k = true
  | .negSucc m, k => za4_0 m k
  | .ofNat n, .negSucc m => zb4_0 n m
  | .ofNat 0, .ofNat 0 => of_all run36 (q := (4, 0, 0, 0)) rfl
  | .ofNat 0, .ofNat (m + 1) => zd4_0_0 m
  | .ofNat 1, .ofNat 0 => of_all run36 (q := (4, 0, 1, 0)) rfl
  | .ofNat 1, .ofNat (m + 1) => zd4_0_1 m
  | .ofNat 2, .ofNat 0 => of_all run36 (q := (4, 0, 2, 0)) rfl
  | .ofNat 2, .ofNat (m + 1) => zd4_0_2 m
  | .ofNat 3, .ofNat 0 => of_all run36 (q := (4, 0, 3, 0)) rfl
  | .ofNat 3, .ofNat (m + 1) => zd4_0_3 m
  | .ofNat 4, .ofNat 0 => of_all run36 (q := (4, 0, 4, 0)) rfl
  | .ofNat 4, .ofNat (m + 1) => zd4_0_4 m
  | .ofNat 5, .ofNat 0 => of_all run36 (q := (4, 0, 5, 0)) rfl
  | .ofNat 5, .ofNat (m + 1) => zd4_0_5 m
  | .ofNat (m + 6), .ofNat n => zc4_0 m n
theorem w4_1 : ∀ (i k : Int), rk (.ofNat 4) (.ofNat 1) i k = true
  | .negSucc m, k => za4_1 m k
  | .ofNat n, .negSucc m => zb4_1 n m
  | .ofNat 0, .ofNat 0 => of_all run37 (q := (4, 1, 0, 0)) rfl
  | .ofNat 0, .ofNat (m + 1) => zd4_1_0 m
  | .ofNat 1, .ofNat 0 => of_all run37 (q := (4, 1, 1, 0)) rfl
  | .ofNat 1, .ofNat (m + 1) => zd4_1_1 m
  | .ofNat 2, .ofNat 0 => of_all run37 (q := (4, 1, 2, 0)) rfl
  | .ofNat 2, .ofNat (m + 1) => zd4_1_2 m
  | .ofNat 3, .ofNat 0 => of_all run37 (q := (4, 1, 3, 0)) rfl
  | .ofNat 3, .ofNat (m + 1) => zd4_1_3 m
  | .ofNat 4, .ofNat 0 => of_all run37 (q := (4, 1, 4, 0)) rfl
  | .ofNat 4, .ofNat (m + 1) => zd4_1_4 m
  | .ofNat 5, .ofNat 0 => of_all run37 (q := (4, 1, 5, 0)) rfl
  | .ofNat 5, .ofNat (m + 1) => zd4_1_5 m
  | .ofNat (m + 6), .ofNat n => zc4_1 m n
theorem w4_2 : ∀ (i k : Int), rk (.ofNat 4) (.ofNat 2) i k = true
  | .negSucc m, k => za4_2 m k
  | .ofNat n, .negSucc m => zb4_2 n m
  | .ofNat 0, .ofNat 0 => of_all run38 (q := (4, 2, 0, 0)) rfl
  | .ofNat 0, .ofNat 1 => of_all run38 (q := (4, 2, 0, 1)) rfl
  | .ofNat 0, .ofNat 2 => of_all run38 (q := (4, 2, 0, 2)) rfl
  | .ofNat 0, .ofNat 3 => of_all run38 (q := (4, 2, 0, 3)) rfl
  | .ofNat 0, .ofNat 4 => of_all run38 (q := (4, 2, 0, 4)) rfl
  | .ofNat 0, .ofNat 5 => of_all run38 (q := (4, 2, 0, 5)) rfl
  | .ofNat 0, .ofNat (m + 6) => zd4_2_0 m
  | .ofNat 1, .ofNat 0 => of_all run39 (q := (4, 2, 1, 0)) rfl
  | .ofNat 1, .ofNat 1 => of_all run39 (q := (4, 2, 1, 1)) rfl
  | .ofNat 1, .ofNat 2 => of_all run39 (q := (4, 2, 1, 2)) rfl
  | .ofNat 1, .ofNat 3 => of_all run39 (q := (4, 2, 1, 3)) rfl
  | .ofNat 1, .ofNat 4 => of_all run39 (q := (4, 2, 1, 4)) rfl
  | .ofNat 1, .ofNat 5 => of_all run39 (q := (4, 2, 1, 5)) rfl
  | .ofNat 1, .ofNat (m + 6) => zd4_2_1 m
  | .ofNat 2, .ofNat 0 => of_all run40 (q := (4, 2, 2, 0)) rfl
  | .ofNat 2, .ofNat 1 => of_all run40 (q := (4, 2, 2, 1)) rfl
  | .ofNat 2, .ofNat 2 => of_all run40 (q := (4, 2, 2, 2)) rfl
  | .ofNat 2, .ofNat 3 => of_all run40 (q := (4, 2, 2, 3)) rfl
  | .ofNat 2, .ofNat 4 => of_all run40 (q := (4, 2, 2, 4)) rfl
  | .ofNat 2, .ofNat 5 => of_all run40 (q := (4, 2, 2, 5)) rfl
  | .ofNat 2, .ofNat (m + 6) => zd4_2_2 m
  | .ofNat 3, .ofNat 0 => of_all run41 (q := (4, 2, 3, 0)) rfl
  | .ofNat 3, .ofNat 1 => of_all run41 (q := (4, 2, 3, 1)) rfl
  | .ofNat 3, .ofNat 2 => of_all run41 (q := (4, 2, 3, 2)) rfl
  | .ofNat 3, .ofNat 3 => of_all run41 (q := (4, 2, 3, 3)) rfl
  | .ofNat 3, .ofNat 4 => of_all run41 (q := (4, 2, 3, 4)) rfl
  | .ofNat 3, .ofNat 5 => of_all run41 (q := (4, 2, 3, 5)) rfl
  | .ofNat 3, .ofNat (m + 6) => zd4_2_3 m
  | .ofNat 4, .ofNat 0 => of_all run42 (q := (4, 2, 4, 0)) rfl
  | .ofNat 4, .ofNat 1 => of_all run42 (q := (4, 2, 4, 1)) rfl
  | .ofNat 4, .ofNat 2 => of_all run42 (q := (4, 2, 4, 2)) rfl
  | .ofNat 4, .ofNat 3 => of_all run42 (q := (4, 2, 4, 3)) rfl
  | .ofNat 4, .ofNat 4 => of_all run42 (q := (4, 2, 4, 4)) rfl
  | .ofNat 4, .ofNat 5 => of_all run42 (q := (4, 2, 4, 5)) rfl
  | .ofNat 4, .ofNat (m + 6) => zd4_2_4 m
  | .ofNat 5, .ofNat 0 => of_all run43 (q := (4, 2, 5, 0)) rfl
  | .ofNat 5, .ofNat 1 => of_all run43 (q := (4, 2, 5, 1)) rfl
  | .ofNat 5, .ofNat 2 => of_all run43 (q := (4, 2, 5, 2)) rfl
  | .ofNat 5, .ofNat 3 => of_all run43 (q := (4, 2, 5, 3)) rfl
  | .ofNat 5, .ofNat 4 => of_all run43 (q := (4, 2, 5, 4)) rfl
  | .ofNat 5, .ofNat 5 => of_all run43 (q := (4, 2, 5, 5)) rfl
  | .ofNat 5, .ofNat (m + 6) => zd4_2_5 m
  | .ofNat (m + 6), .ofNat n => zc4_2 m n
theorem w4_3 : ∀ (i k : Int), rk (.ofNat 4) (.ofNat 3) i k = true
  | .negSucc m, k => za4_3 m k
  | .ofNat n, .negSucc m => zb4_3 n m
  | .ofNat 0, .ofNat 0 => of_all run44 (q := (4, 3, 0, 0)) rfl
  | .ofNat 0, .ofNat 1 => of_all run44 (q := (4, 3, 0, 1)) rfl
  | .ofNat 0, .ofNat 2 => of_all run44 (q := (4, 3, 0, 2)) rfl
  | .ofNat 0, .ofNat 3 => of_all run44 (q := (4, 3, 0, 3)) rfl
  | .ofNat 0, .ofNat (m + 4) => zd4_3_0 m
  | .ofNat 1, .ofNat 0 => of_all run44 (q := (4, 3, 1, 0)) rfl
  | .ofNat 1, .ofNat 1 => of_all run44 (q := (4, 3, 1, 1)) rfl
  | .ofNat 1, .ofNat 2 => of_all run45 (q := (4, 3, 1, 2)) rfl
  | .ofNat 1, .ofNat 3 => of_all run45 (q := (4, 3, 1, 3)) rfl
  | .ofNat 1, .ofNat (m + 4) => zd4_3_1 m
  | .ofNat 2, .ofNat 0 => of_all run45 (q := (4, 3, 2, 0)) rfl
  | .ofNat 2, .ofNat 1 => of_all run45 (q := (4, 3, 2, 1)) rfl
  | .ofNat 2, .ofNat 2 => of_all run45 (q := (4, 3, 2, 2)) rfl
  | .ofNat 2, .ofNat 3 => of_all run45 (q := (4, 3, 2, 3)) rfl
  | .ofNat 2, .ofNat (m + 4) => zd4_3_2 m
  | .ofNat 3, .ofNat 0 => of_all run46 (q := (4, 3, 3, 0)) rfl
  | .ofNat 3, .ofNat 1 => of_all run46 (q := (4, 3, 3, 1)) rfl
  | .ofNat 3, .ofNat 2 => of_all run46 (q := (4, 3, 3, 2)) rfl
  | .ofNat 3, .ofNat 3 => of_all run46 (q := (4, 3, 3, 3)) rfl
  | .ofNat 3, .ofNat (m + 4) => zd4_3_3 m
  | .ofNat 4, .ofNat 0 => of_all run46 (q := (4, 3, 4, 0)) rfl
  | .ofNat 4, .ofNat 1 => of_all run46 (q := (4, 3, 4, 1)) rfl
  | .ofNat 4, .ofNat 2 => of_all run47 (q := (4, 3, 4, 2)) rfl
  | .ofNat 4, .ofNat 3 => of_all run47 (q := (4, 3, 4, 3)) rfl
  | .ofNat 4, .ofNat (m + 4) => zd4_3_4 m
  | .ofNat 5, .ofNat 0 => of_all run47 (q := (4, 3, 5, 0)) rfl
  | .ofNat 5, .ofNat 1 => of_all run47 (q := (4, 3, 5, 1)) rfl
  | .ofNat 5, .ofNat 2 => of_all run47 (q := (4, 3, 5, 2)) rfl
  | .ofNat 5, .ofNat 3 => of_all run47 (q := (4, 3, 5, 3)) rfl
  | .ofNat 5, .ofNat (m + 4) => zd4_3_5 m
  | .ofNat (m + 6), .ofNat n => zc4_3 m n
theorem w4_4 : ∀ (i k : Int), rk (.ofNat 4) (.ofNat 4) i k = true
  | .negSucc m, k => za4_4 m k
  | .ofNat n, .negSucc m => zb4_4 n m
  | .ofNat 0, .ofNat 0 => of_all run48 (q := (4, 4, 0, 0)) rfl
  | .ofNat 0, .ofNat 1 => of_all run48 (q := (4, 4, 0, 1)) rfl
  | .ofNat 0, .ofNat 2 => of_all run48 (q := (4, 4, 0, 2)) rfl
  | .ofNat 0, .ofNat 3 => of_all run48 (q := (4, 4, 0, 3)) rfl
  | .ofNat 0, .ofNat 4 => of_all run48 (q := (4, 4, 0, 4)) rfl
  | .ofNat 0, .ofNat 5 => of_all run48 (q := (4, 4, 0, 5)) rfl
  | .ofNat 0, .ofNat (m + 6) => zd4_4_0 m
  | .ofNat 1, .ofNat 0 => of_all run49 (q := (4, 4, 1, 0)) rfl
  | .ofNat 1, .ofNat 1 => of_all run49 (q := (4, 4, 1, 1)) rfl
  | .ofNat 1, .ofNat 2 => of_all run49 (q := (4, 4, 1, 2)) rfl
  | .ofNat 1, .ofNat 3 => of_all run49 (q := (4, 4, 1, 3)) rfl
  | .ofNat 1, .ofNat 4 => of_all run49 (q := (4, 4, 1, 4)) rfl
  | .ofNat 1, .ofNat 5 => of_all run49 (q := (4, 4, 1, 5)) rfl
  | .ofNat 1, .ofNat (m + 6) => zd4_4_1 m
  | .ofNat 2, .ofNat 0 => of_all run50 (q := (4, 4, 2, 0)) rfl
  | .ofNat 2, .ofNat 1 => of_all run50 (q := (4, 4, 2, 1)) rfl
  | .ofNat 2, .ofNat 2 => of_all run50 (q := (4, 4, 2, 2)) rfl
  | .ofNat 2, .ofNat 3 => of_all run50 (q := (4, 4, 2, 3)) rfl
  | .ofNat 2, .ofNat 4 => of_all run50 (q := (4, 4, 2, 4)) rfl
  | .ofNat 2, .ofNat 5 => of_all run50 (q := (4, 4, 2, 5)) rfl
  | .ofNat 2, .ofNat (m + 6) => zd4_4_2 m
  | .ofNat 3, .ofNat 0 => of_all run51 (q := (4, 4, 3, 0)) rfl
  | .ofNat 3, .ofNat 1 => of_all run51 (q := (4, 4, 3, 1)) rfl
  | .ofNat 3, .ofNat 2 => of_all run51 (q := (4, 4, 3, 2)) rfl
  | .ofNat 3, .ofNat 3 => of_all run51 (q := (4, 4, 3, 3)) rfl
  | .ofNat 3, .ofNat 4 => of_all run51 (q := (4, 4, 3, 4)) rfl
  | .ofNat 3, .ofNat 5 => of_all run51 (q := (4, 4, 3, 5)) rfl
  | .ofNat 3, .ofNat (m + 6) => zd4_4_3 m
  | .ofNat 4, .ofNat 0 => of_all run52 (q := (4, 4, 4, 0)) rfl
  | .ofNat 4, .ofNat 1 => of_all run52 (q := (4, 4, 4, 1)) rfl
  | .ofNat 4, .ofNat 2 => of_all run52 (q := (4, 4, 4, 2)) rfl
  | .ofNat 4, .ofNat 3 => of_all run52 (q := (4, 4, 4, 3)) rfl
  | .ofNat 4, .ofNat 4 => of_all run52 (q := (4, 4, 4, 4)) rfl
  | .ofNat 4, .ofNat 5 => of_all run52 (q := (4, 4, 4, 5)) rfl
  | .ofNat 4, .ofNat (m + 6) => zd4_4_4 m
  | .ofNat 5, .ofNat 0 => of_all run53 (q := (4, 4, 5, 0)) rfl
  | .ofNat 5, .ofNat 1 => of_all run53 (q := (4, 4, 5, 1)) rfl
  | .ofNat 5, .ofNat 2 => of_all run53 (q := (4, 4, 5, 2)) rfl
  | .ofNat 5, .ofNat 3 => of_all run53 (q := (4, 4, 5, 3)) rfl
  | .ofNat 5, .ofNat 4 => of_all run53 (q := (4, 4, 5, 4)) rfl
  | .ofNat 5, .ofNat 5 => of_all run53 (q := (4, 4, 5, 5)) rfl
  | .ofNat 5, .ofNat (m + 6) => zd4_4_5 m
  | .ofNat (m + 6), .ofNat n => zc4_4 m n
theorem v0 : ∀ (b i k : Int), rk (.ofNat 0) b i k = true
  | .negSucc m, i, k => ya0 m i k
  | .ofNat 0, i, k => w0_0 i k
  | .ofNat 1, i, k => w0_1 i k
  | .ofNat 2, i, k => w0_2 i k
  | .ofNat 3, i, k => w0_3 i k
  | .ofNat 4, i, k => w0_4 i k
  | .ofNat (m + 5), i, k => yb0 m i k
theorem v1 : ∀ (b i k : Int), rk (.ofNat 1) b i k = true
  | .negSucc m, i, k => ya1 m i k
  | .ofNat 0, i, k => w1_0 i k
  | .ofNat 1, i, k => w1_1 i k
  | .ofNat 2, i, k => w1_2 i k
  | .ofNat 3, i, k => w1_3 i k
  | .ofNat 4, i, k => w1_4 i k
  | .ofNat (m + 5), i, k => yb1 m i k
theorem v2 : ∀ (b i k : Int), rk (.ofNat 2) b i k = true
  | .negSucc m, i, k => ya2 m i k
  | .ofNat 0, i, k => w2_0 i k
  | .ofNat 1, i, k => w2_1 i k
  | .ofNat 2, i, k => w2_2 i k
  | .ofNat 3, i, k => w2_3 i k
  | .ofNat 4, i, k => w2_4 i k
  | .ofNat (m + 5), i, k => yb2 m i k
theorem v3 : ∀ (b i k : Int), rk (.ofNat 3) b i k = true
  | .negSucc m, i, k => ya3 m i k
  | .ofNat 0, i, k => w3_0 i k
  | .ofNat 1, i, k => w3_1 i k
  | .ofNat 2, i, k => w3_2 i k
  | .ofNat 3, i, k => w3_3 i k
  | .ofNat 4, i, k => w3_4 i k
  | .ofNat (m + 5), i, k => yb3 m i k
theorem v4 : ∀ (b i k : Int), rk (.ofNat 4) b i k = true
  | .negSucc m, i, k => ya4 m i k
  | .ofNat 0, i, k => w4_0 i k
  | .ofNat 1, i, k => w4_1 i k
  | .ofNat 2, i, k => w4_2 i k
  | .ofNat 3, i, k => w4_3 i k
  | .ofNat 4, i, k => w4_4 i k
  | .ofNat (m + 5), i, k => yb4 m i k
theorem rk_all : ∀ (a b i k : Int), rk a b i k = true
  | .negSucc m, b, i, k => xa m b i k
  | .ofNat 0, b, i, k => v0 b i k
  | .ofNat 1, b, i, k => v1 b i k
  | .ofNat 2, b, i, k => v2 b i k
  | .ofNat 3, b, i, k => v3 b i k
  | .ofNat 4, b, i, k => v4 b i k
  | .ofNat (m + 5), b, i, k => xb m b i k
theorem ranks_walk (a b i k : Int) (w : World) : Calls Tryz.prog 3 #[.int .i64 a, .int .i64 b, .int .i64 i, .int .i64 k] w fun e w' => e = .returned (.bool true) ∧ Below w.heap.size w w' :=
  fast_calls hmix Fk_ok Fk_no (okO_some (rk_all a b i k)) rfl rfl w
end Go.Proofs.YtachednafdmmaaaGreatDoor.AI
