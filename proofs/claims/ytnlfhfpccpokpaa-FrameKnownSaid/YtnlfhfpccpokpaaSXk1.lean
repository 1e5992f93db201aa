/- A stack of frames: rounds 100 to 159, each one run. -/
import Derived.Test.YtnlfhfpccpokpaaSXk
import Derived.KernelRfl
namespace Go.Proofs.Ytnlfhfpccpokpaa.AI
open Go Go.RowKit
set_option linter.unusedVariables false
set_option linter.unusedSimpArgs false
set_option maxRecDepth 100000
theorem st100 : ST 100 := by show _ = _; kernel_rfl
theorem st101 : ST 101 := by show _ = _; kernel_rfl
theorem st102 : ST 102 := by show _ = _; kernel_rfl
theorem st103 : ST 103 := by show _ = _; kernel_rfl
theorem st104 : ST 104 := by show _ = _; kernel_rfl
theorem st105 : ST 105 := by show _ = _; kernel_rfl
theorem st106 : ST 106 := by show _ = _; kernel_rfl
theorem st107 : ST 107 := by show _ = _; kernel_rfl
theorem st108 : ST 108 := by show _ = _; kernel_rfl
theorem st109 : ST 109 := by show _ = _; kernel_rfl
theorem st110 : ST 110 := by show _ = _; kernel_rfl
theorem st111 : ST 111 := by show _ = _; kernel_rfl
theorem st112 : ST 112 := by show _ = _; kernel_rfl
theorem st113 : ST 113 := by show _ = _; kernel_rfl
theorem st114 : ST 114 := by show _ = _; kernel_rfl
theorem st115 : ST 115 := by show _ = _; kernel_rfl
theorem st116 : ST 116 := by show _ = _; kernel_rfl
theorem st117 : ST 117 := by show _ = _; kernel_rfl
theorem st118 : ST 118 := by show _ = _; kernel_rfl
theorem st119 : ST 119 := by show _ = _; kernel_rfl
theorem st120 : ST 120 := by show _ = _; kernel_rfl
theorem st121 : ST 121 := by show _ = _; kernel_rfl
theorem st122 : ST 122 := by show _ = _; kernel_rfl
theorem st123 : ST 123 := by show _ = _; kernel_rfl
theorem st124 : ST 124 := by show _ = _; kernel_rfl
theorem st125 : ST 125 := by show _ = _; kernel_rfl
theorem st126 : ST 126 := by show _ = _; kernel_rfl
theorem st127 : ST 127 := by show _ = _; kernel_rfl
theorem st128 : ST 128 := by show _ = _; kernel_rfl
theorem st129 : ST 129 := by show _ = _; kernel_rfl
theorem st130 : ST 130 := by show _ = _; kernel_rfl
theorem st131 : ST 131 := by show _ = _; kernel_rfl
theorem st132 : ST 132 := by show _ = _; kernel_rfl
theorem st133 : ST 133 := by show _ = _; kernel_rfl
theorem st134 : ST 134 := by show _ = _; kernel_rfl
theorem st135 : ST 135 := by show _ = _; kernel_rfl
theorem st136 : ST 136 := by show _ = _; kernel_rfl
theorem st137 : ST 137 := by show _ = _; kernel_rfl
theorem st138 : ST 138 := by show _ = _; kernel_rfl
theorem st139 : ST 139 := by show _ = _; kernel_rfl
theorem st140 : ST 140 := by show _ = _; kernel_rfl
theorem st141 : ST 141 := by show _ = _; kernel_rfl
theorem st142 : ST 142 := by show _ = _; kernel_rfl
theorem st143 : ST 143 := by show _ = _; kernel_rfl
theorem st144 : ST 144 := by show _ = _; kernel_rfl
theorem st145 : ST 145 := by show _ = _; kernel_rfl
theorem st146 : ST 146 := by show _ = _; kernel_rfl
theorem st147 : ST 147 := by show _ = _; kernel_rfl
theorem st148 : ST 148 := by show _ = _; kernel_rfl
theorem st149 : ST 149 := by show _ = _; kernel_rfl
theorem st150 : ST 150 := by show _ = _; kernel_rfl
theorem st151 : ST 151 := by show _ = _; kernel_rfl
theorem st152 : ST 152 := by show _ = _; kernel_rfl
theorem st153 : ST 153 := by show _ = _; kernel_rfl
theorem st154 : ST 154 := by show _ = _; kernel_rfl
theorem st155 : ST 155 := by show _ = _; kernel_rfl
theorem st156 : ST 156 := by show _ = _; kernel_rfl
theorem st157 : ST 157 := by show _ = _; kernel_rfl
theorem st158 : ST 158 := by show _ = _; kernel_rfl
theorem st159 : ST 159 := by show _ = _; kernel_rfl
theorem all1 : ∀ k, 100 ≤ k → k < 160 → ST k := by
  intro k h1 h2
  match k, h1, h2 with
  | 100, _, _ => exact st100
  | 101, _, _ => exact st101
  | 102, _, _ => exact st102
  | 103, _, _ => exact st103
  | 104, _, _ => exact st104
  | 105, _, _ => exact st105
  | 106, _, _ => exact st106
  | 107, _, _ => exact st107
  | 108, _, _ => exact st108
  | 109, _, _ => exact st109
  | 110, _, _ => exact st110
  | 111, _, _ => exact st111
  | 112, _, _ => exact st112
  | 113, _, _ => exact st113
  | 114, _, _ => exact st114
  | 115, _, _ => exact st115
  | 116, _, _ => exact st116
  | 117, _, _ => exact st117
  | 118, _, _ => exact st118
  | 119, _, _ => exact st119
  | 120, _, _ => exact st120
  | 121, _, _ => exact st121
  | 122, _, _ => exact st122
  | 123, _, _ => exact st123
  | 124, _, _ => exact st124
  | 125, _, _ => exact st125
  | 126, _, _ => exact st126
  | 127, _, _ => exact st127
  | 128, _, _ => exact st128
  | 129, _, _ => exact st129
  | 130, _, _ => exact st130
  | 131, _, _ => exact st131
  | 132, _, _ => exact st132
  | 133, _, _ => exact st133
  | 134, _, _ => exact st134
  | 135, _, _ => exact st135
  | 136, _, _ => exact st136
  | 137, _, _ => exact st137
  | 138, _, _ => exact st138
  | 139, _, _ => exact st139
  | 140, _, _ => exact st140
  | 141, _, _ => exact st141
  | 142, _, _ => exact st142
  | 143, _, _ => exact st143
  | 144, _, _ => exact st144
  | 145, _, _ => exact st145
  | 146, _, _ => exact st146
  | 147, _, _ => exact st147
  | 148, _, _ => exact st148
  | 149, _, _ => exact st149
  | 150, _, _ => exact st150
  | 151, _, _ => exact st151
  | 152, _, _ => exact st152
  | 153, _, _ => exact st153
  | 154, _, _ => exact st154
  | 155, _, _ => exact st155
  | 156, _, _ => exact st156
  | 157, _, _ => exact st157
  | 158, _, _ => exact st158
  | 159, _, _ => exact st159
  | k + 160, _, h2 => omega
end Go.Proofs.Ytnlfhfpccpokpaa.AI
