/- A stack of frames: rounds 0 to 99, each one run. -/
import Derived.Test.YtnlfhfpccpokpaaSXk
import Derived.KernelRfl
namespace Go.Proofs.Ytnlfhfpccpokpaa.AI
open Go Go.RowKit
set_option linter.unusedVariables false
set_option linter.unusedSimpArgs false
set_option maxRecDepth 100000
theorem st0 : ST 0 := by show _ = _; kernel_rfl
theorem st1 : ST 1 := by show _ = _; kernel_rfl
theorem st2 : ST 2 := by show _ = _; kernel_rfl
theorem st3 : ST 3 := by show _ = _; kernel_rfl
theorem st4 : ST 4 := by show _ = _; kernel_rfl
theorem st5 : ST 5 := by show _ = _; kernel_rfl
theorem st6 : ST 6 := by show _ = _; kernel_rfl
theorem st7 : ST 7 := by show _ = _; kernel_rfl
theorem st8 : ST 8 := by show _ = _; kernel_rfl
theorem st9 : ST 9 := by show _ = _; kernel_rfl
theorem st10 : ST 10 := by show _ = _; kernel_rfl
theorem st11 : ST 11 := by show _ = _; kernel_rfl
theorem st12 : ST 12 := by show _ = _; kernel_rfl
theorem st13 : ST 13 := by show _ = _; kernel_rfl
theorem st14 : ST 14 := by show _ = _; kernel_rfl
theorem st15 : ST 15 := by show _ = _; kernel_rfl
theorem st16 : ST 16 := by show _ = _; kernel_rfl
theorem st17 : ST 17 := by show _ = _; kernel_rfl
theorem st18 : ST 18 := by show _ = _; kernel_rfl
theorem st19 : ST 19 := by show _ = _; kernel_rfl
theorem st20 : ST 20 := by show _ = _; kernel_rfl
theorem st21 : ST 21 := by show _ = _; kernel_rfl
theorem st22 : ST 22 := by show _ = _; kernel_rfl
theorem st23 : ST 23 := by show _ = _; kernel_rfl
theorem st24 : ST 24 := by show _ = _; kernel_rfl
theorem st25 : ST 25 := by show _ = _; kernel_rfl
theorem st26 : ST 26 := by show _ = _; kernel_rfl
theorem st27 : ST 27 := by show _ = _; kernel_rfl
theorem st28 : ST 28 := by show _ = _; kernel_rfl
theorem st29 : ST 29 := by show _ = _; kernel_rfl
theorem st30 : ST 30 := by show _ = _; kernel_rfl
theorem st31 : ST 31 := by show _ = _; kernel_rfl
theorem st32 : ST 32 := by show _ = _; kernel_rfl
theorem st33 : ST 33 := by show _ = _; kernel_rfl
theorem st34 : ST 34 := by show _ = _; kernel_rfl
theorem st35 : ST 35 := by show _ = _; kernel_rfl
theorem st36 : ST 36 := by show _ = _; kernel_rfl
theorem st37 : ST 37 := by show _ = _; kernel_rfl
theorem st38 : ST 38 := by show _ = _; kernel_rfl
theorem st39 : ST 39 := by show _ = _; kernel_rfl
theorem st40 : ST 40 := by show _ = _; kernel_rfl
theorem st41 : ST 41 := by show _ = _; kernel_rfl
theorem st42 : ST 42 := by show _ = _; kernel_rfl
theorem st43 : ST 43 := by show _ = _; kernel_rfl
theorem st44 : ST 44 := by show _ = _; kernel_rfl
theorem st45 : ST 45 := by show _ = _; kernel_rfl
theorem st46 : ST 46 := by show _ = _; kernel_rfl
theorem st47 : ST 47 := by show _ = _; kernel_rfl
theorem st48 : ST 48 := by show _ = _; kernel_rfl
theorem st49 : ST 49 := by show _ = _; kernel_rfl
theorem st50 : ST 50 := by show _ = _; kernel_rfl
theorem st51 : ST 51 := by show _ = _; kernel_rfl
theorem st52 : ST 52 := by show _ = _; kernel_rfl
theorem st53 : ST 53 := by show _ = _; kernel_rfl
theorem st54 : ST 54 := by show _ = _; kernel_rfl
theorem st55 : ST 55 := by show _ = _; kernel_rfl
theorem st56 : ST 56 := by show _ = _; kernel_rfl
theorem st57 : ST 57 := by show _ = _; kernel_rfl
theorem st58 : ST 58 := by show _ = _; kernel_rfl
theorem st59 : ST 59 := by show _ = _; kernel_rfl
theorem st60 : ST 60 := by show _ = _; kernel_rfl
theorem st61 : ST 61 := by show _ = _; kernel_rfl
theorem st62 : ST 62 := by show _ = _; kernel_rfl
theorem st63 : ST 63 := by show _ = _; kernel_rfl
theorem st64 : ST 64 := by show _ = _; kernel_rfl
theorem st65 : ST 65 := by show _ = _; kernel_rfl
theorem st66 : ST 66 := by show _ = _; kernel_rfl
theorem st67 : ST 67 := by show _ = _; kernel_rfl
theorem st68 : ST 68 := by show _ = _; kernel_rfl
theorem st69 : ST 69 := by show _ = _; kernel_rfl
theorem st70 : ST 70 := by show _ = _; kernel_rfl
theorem st71 : ST 71 := by show _ = _; kernel_rfl
theorem st72 : ST 72 := by show _ = _; kernel_rfl
theorem st73 : ST 73 := by show _ = _; kernel_rfl
theorem st74 : ST 74 := by show _ = _; kernel_rfl
theorem st75 : ST 75 := by show _ = _; kernel_rfl
theorem st76 : ST 76 := by show _ = _; kernel_rfl
theorem st77 : ST 77 := by show _ = _; kernel_rfl
theorem st78 : ST 78 := by show _ = _; kernel_rfl
theorem st79 : ST 79 := by show _ = _; kernel_rfl
theorem st80 : ST 80 := by show _ = _; kernel_rfl
theorem st81 : ST 81 := by show _ = _; kernel_rfl
theorem st82 : ST 82 := by show _ = _; kernel_rfl
theorem st83 : ST 83 := by show _ = _; kernel_rfl
theorem st84 : ST 84 := by show _ = _; kernel_rfl
theorem st85 : ST 85 := by show _ = _; kernel_rfl
theorem st86 : ST 86 := by show _ = _; kernel_rfl
theorem st87 : ST 87 := by show _ = _; kernel_rfl
theorem st88 : ST 88 := by show _ = _; kernel_rfl
theorem st89 : ST 89 := by show _ = _; kernel_rfl
theorem st90 : ST 90 := by show _ = _; kernel_rfl
theorem st91 : ST 91 := by show _ = _; kernel_rfl
theorem st92 : ST 92 := by show _ = _; kernel_rfl
theorem st93 : ST 93 := by show _ = _; kernel_rfl
theorem st94 : ST 94 := by show _ = _; kernel_rfl
theorem st95 : ST 95 := by show _ = _; kernel_rfl
theorem st96 : ST 96 := by show _ = _; kernel_rfl
theorem st97 : ST 97 := by show _ = _; kernel_rfl
theorem st98 : ST 98 := by show _ = _; kernel_rfl
theorem st99 : ST 99 := by show _ = _; kernel_rfl
theorem all0 : ∀ k, 0 ≤ k → k < 100 → ST k := by
  intro k h1 h2
  match k, h1, h2 with
  | 0, _, _ => exact st0
  | 1, _, _ => exact st1
  | 2, _, _ => exact st2
  | 3, _, _ => exact st3
  | 4, _, _ => exact st4
  | 5, _, _ => exact st5
  | 6, _, _ => exact st6
  | 7, _, _ => exact st7
  | 8, _, _ => exact st8
  | 9, _, _ => exact st9
  | 10, _, _ => exact st10
  | 11, _, _ => exact st11
  | 12, _, _ => exact st12
  | 13, _, _ => exact st13
  | 14, _, _ => exact st14
  | 15, _, _ => exact st15
  | 16, _, _ => exact st16
  | 17, _, _ => exact st17
  | 18, _, _ => exact st18
  | 19, _, _ => exact st19
  | 20, _, _ => exact st20
  | 21, _, _ => exact st21
  | 22, _, _ => exact st22
  | 23, _, _ => exact st23
  | 24, _, _ => exact st24
  | 25, _, _ => exact st25
  | 26, _, _ => exact st26
  | 27, _, _ => exact st27
  | 28, _, _ => exact st28
  | 29, _, _ => exact st29
  | 30, _, _ => exact st30
  | 31, _, _ => exact st31
  | 32, _, _ => exact st32
  | 33, _, _ => exact st33
  | 34, _, _ => exact st34
  | 35, _, _ => exact st35
  | 36, _, _ => exact st36
  | 37, _, _ => exact st37
  | 38, _, _ => exact st38
  | 39, _, _ => exact st39
  | 40, _, _ => exact st40
  | 41, _, _ => exact st41
  | 42, _, _ => exact st42
  | 43, _, _ => exact st43
  | 44, _, _ => exact st44
  | 45, _, _ => exact st45
  | 46, _, _ => exact st46
  | 47, _, _ => exact st47
  | 48, _, _ => exact st48
  | 49, _, _ => exact st49
  | 50, _, _ => exact st50
  | 51, _, _ => exact st51
  | 52, _, _ => exact st52
  | 53, _, _ => exact st53
  | 54, _, _ => exact st54
  | 55, _, _ => exact st55
  | 56, _, _ => exact st56
  | 57, _, _ => exact st57
  | 58, _, _ => exact st58
  | 59, _, _ => exact st59
  | 60, _, _ => exact st60
  | 61, _, _ => exact st61
  | 62, _, _ => exact st62
  | 63, _, _ => exact st63
  | 64, _, _ => exact st64
  | 65, _, _ => exact st65
  | 66, _, _ => exact st66
  | 67, _, _ => exact st67
  | 68, _, _ => exact st68
  | 69, _, _ => exact st69
  | 70, _, _ => exact st70
  | 71, _, _ => exact st71
  | 72, _, _ => exact st72
  | 73, _, _ => exact st73
  | 74, _, _ => exact st74
  | 75, _, _ => exact st75
  | 76, _, _ => exact st76
  | 77, _, _ => exact st77
  | 78, _, _ => exact st78
  | 79, _, _ => exact st79
  | 80, _, _ => exact st80
  | 81, _, _ => exact st81
  | 82, _, _ => exact st82
  | 83, _, _ => exact st83
  | 84, _, _ => exact st84
  | 85, _, _ => exact st85
  | 86, _, _ => exact st86
  | 87, _, _ => exact st87
  | 88, _, _ => exact st88
  | 89, _, _ => exact st89
  | 90, _, _ => exact st90
  | 91, _, _ => exact st91
  | 92, _, _ => exact st92
  | 93, _, _ => exact st93
  | 94, _, _ => exact st94
  | 95, _, _ => exact st95
  | 96, _, _ => exact st96
  | 97, _, _ => exact st97
  | 98, _, _ => exact st98
  | 99, _, _ => exact st99
  | k + 100, _, h2 => omega
end Go.Proofs.Ytnlfhfpccpokpaa.AI
