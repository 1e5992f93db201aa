/- A stack of frames: rounds 160 to 209, each one run. -/
import Derived.Test.YtnlfhfpccpokpaaSXk
import Derived.KernelRfl
namespace Go.Proofs.Ytnlfhfpccpokpaa.AI
open Go Go.RowKit
set_option linter.unusedVariables false
set_option linter.unusedSimpArgs false
set_option maxRecDepth 100000
theorem st160 : ST 160 := by show _ = _; kernel_rfl
theorem st161 : ST 161 := by show _ = _; kernel_rfl
theorem st162 : ST 162 := by show _ = _; kernel_rfl
theorem st163 : ST 163 := by show _ = _; kernel_rfl
theorem st164 : ST 164 := by show _ = _; kernel_rfl
theorem st165 : ST 165 := by show _ = _; kernel_rfl
theorem st166 : ST 166 := by show _ = _; kernel_rfl
theorem st167 : ST 167 := by show _ = _; kernel_rfl
theorem st168 : ST 168 := by show _ = _; kernel_rfl
theorem st169 : ST 169 := by show _ = _; kernel_rfl
theorem st170 : ST 170 := by show _ = _; kernel_rfl
theorem st171 : ST 171 := by show _ = _; kernel_rfl
theorem st172 : ST 172 := by show _ = _; kernel_rfl
theorem st173 : ST 173 := by show _ = _; kernel_rfl
theorem st174 : ST 174 := by show _ = _; kernel_rfl
theorem st175 : ST 175 := by show _ = _; kernel_rfl
theorem st176 : ST 176 := by show _ = _; kernel_rfl
theorem st177 : ST 177 := by show _ = _; kernel_rfl
theorem st178 : ST 178 := by show _ = _; kernel_rfl
theorem st179 : ST 179 := by show _ = _; kernel_rfl
theorem st180 : ST 180 := by show _ = _; kernel_rfl
theorem st181 : ST 181 := by show _ = _; kernel_rfl
theorem st182 : ST 182 := by show _ = _; kernel_rfl
theorem st183 : ST 183 := by show _ = _; kernel_rfl
theorem st184 : ST 184 := by show _ = _; kernel_rfl
theorem st185 : ST 185 := by show _ = _; kernel_rfl
theorem st186 : ST 186 := by show _ = _; kernel_rfl
theorem st187 : ST 187 := by show _ = _; kernel_rfl
theorem st188 : ST 188 := by show _ = _; kernel_rfl
theorem st189 : ST 189 := by show _ = _; kernel_rfl
theorem st190 : ST 190 := by show _ = _; kernel_rfl
theorem st191 : ST 191 := by show _ = _; kernel_rfl
theorem st192 : ST 192 := by show _ = _; kernel_rfl
theorem st193 : ST 193 := by show _ = _; kernel_rfl
theorem st194 : ST 194 := by show _ = _; kernel_rfl
theorem st195 : ST 195 := by show _ = _; kernel_rfl
theorem st196 : ST 196 := by show _ = _; kernel_rfl
theorem st197 : ST 197 := by show _ = _; kernel_rfl
theorem st198 : ST 198 := by show _ = _; kernel_rfl
theorem st199 : ST 199 := by show _ = _; kernel_rfl
theorem st200 : ST 200 := by show _ = _; kernel_rfl
theorem st201 : ST 201 := by show _ = _; kernel_rfl
theorem st202 : ST 202 := by show _ = _; kernel_rfl
theorem st203 : ST 203 := by show _ = _; kernel_rfl
theorem st204 : ST 204 := by show _ = _; kernel_rfl
theorem st205 : ST 205 := by show _ = _; kernel_rfl
theorem st206 : ST 206 := by show _ = _; kernel_rfl
theorem st207 : ST 207 := by show _ = _; kernel_rfl
theorem st208 : ST 208 := by show _ = _; kernel_rfl
theorem st209 : ST 209 := by show _ = _; kernel_rfl
theorem all2 : ∀ k, 160 ≤ k → k < 210 → ST k := by
  intro k h1 h2
  match k, h1, h2 with
  | 160, _, _ => exact st160
  | 161, _, _ => exact st161
  | 162, _, _ => exact st162
  | 163, _, _ => exact st163
  | 164, _, _ => exact st164
  | 165, _, _ => exact st165
  | 166, _, _ => exact st166
  | 167, _, _ => exact st167
  | 168, _, _ => exact st168
  | 169, _, _ => exact st169
  | 170, _, _ => exact st170
  | 171, _, _ => exact st171
  | 172, _, _ => exact st172
  | 173, _, _ => exact st173
  | 174, _, _ => exact st174
  | 175, _, _ => exact st175
  | 176, _, _ => exact st176
  | 177, _, _ => exact st177
  | 178, _, _ => exact st178
  | 179, _, _ => exact st179
  | 180, _, _ => exact st180
  | 181, _, _ => exact st181
  | 182, _, _ => exact st182
  | 183, _, _ => exact st183
  | 184, _, _ => exact st184
  | 185, _, _ => exact st185
  | 186, _, _ => exact st186
  | 187, _, _ => exact st187
  | 188, _, _ => exact st188
  | 189, _, _ => exact st189
  | 190, _, _ => exact st190
  | 191, _, _ => exact st191
  | 192, _, _ => exact st192
  | 193, _, _ => exact st193
  | 194, _, _ => exact st194
  | 195, _, _ => exact st195
  | 196, _, _ => exact st196
  | 197, _, _ => exact st197
  | 198, _, _ => exact st198
  | 199, _, _ => exact st199
  | 200, _, _ => exact st200
  | 201, _, _ => exact st201
  | 202, _, _ => exact st202
  | 203, _, _ => exact st203
  | 204, _, _ => exact st204
  | 205, _, _ => exact st205
  | 206, _, _ => exact st206
  | 207, _, _ => exact st207
  | 208, _, _ => exact st208
  | 209, _, _ => exact st209
  | k + 210, _, h2 => omega
end Go.Proofs.Ytnlfhfpccpokpaa.AI
