/- A stack of frames: rounds 210 to 254, each one run. -/
import Derived.Test.YtnlfhfpccpokpaaSXk
import Derived.KernelRfl
namespace Go.Proofs.Ytnlfhfpccpokpaa.AI
open Go Go.RowKit
set_option linter.unusedVariables false
set_option linter.unusedSimpArgs false
set_option maxRecDepth 100000
theorem st210 : ST 210 := by show _ = _; kernel_rfl
theorem st211 : ST 211 := by show _ = _; kernel_rfl
theorem st212 : ST 212 := by show _ = _; kernel_rfl
theorem st213 : ST 213 := by show _ = _; kernel_rfl
theorem st214 : ST 214 := by show _ = _; kernel_rfl
theorem st215 : ST 215 := by show _ = _; kernel_rfl
theorem st216 : ST 216 := by show _ = _; kernel_rfl
theorem st217 : ST 217 := by show _ = _; kernel_rfl
theorem st218 : ST 218 := by show _ = _; kernel_rfl
theorem st219 : ST 219 := by show _ = _; kernel_rfl
theorem st220 : ST 220 := by show _ = _; kernel_rfl
theorem st221 : ST 221 := by show _ = _; kernel_rfl
theorem st222 : ST 222 := by show _ = _; kernel_rfl
theorem st223 : ST 223 := by show _ = _; kernel_rfl
theorem st224 : ST 224 := by show _ = _; kernel_rfl
theorem st225 : ST 225 := by show _ = _; kernel_rfl
theorem st226 : ST 226 := by show _ = _; kernel_rfl
theorem st227 : ST 227 := by show _ = _; kernel_rfl
theorem st228 : ST 228 := by show _ = _; kernel_rfl
theorem st229 : ST 229 := by show _ = _; kernel_rfl
theorem st230 : ST 230 := by show _ = _; kernel_rfl
theorem st231 : ST 231 := by show _ = _; kernel_rfl
theorem st232 : ST 232 := by show _ = _; kernel_rfl
theorem st233 : ST 233 := by show _ = _; kernel_rfl
theorem st234 : ST 234 := by show _ = _; kernel_rfl
theorem st235 : ST 235 := by show _ = _; kernel_rfl
theorem st236 : ST 236 := by show _ = _; kernel_rfl
theorem st237 : ST 237 := by show _ = _; kernel_rfl
theorem st238 : ST 238 := by show _ = _; kernel_rfl
theorem st239 : ST 239 := by show _ = _; kernel_rfl
theorem st240 : ST 240 := by show _ = _; kernel_rfl
theorem st241 : ST 241 := by show _ = _; kernel_rfl
theorem st242 : ST 242 := by show _ = _; kernel_rfl
theorem st243 : ST 243 := by show _ = _; kernel_rfl
theorem st244 : ST 244 := by show _ = _; kernel_rfl
theorem st245 : ST 245 := by show _ = _; kernel_rfl
theorem st246 : ST 246 := by show _ = _; kernel_rfl
theorem st247 : ST 247 := by show _ = _; kernel_rfl
theorem st248 : ST 248 := by show _ = _; kernel_rfl
theorem st249 : ST 249 := by show _ = _; kernel_rfl
theorem st250 : ST 250 := by show _ = _; kernel_rfl
theorem st251 : ST 251 := by show _ = _; kernel_rfl
theorem st252 : ST 252 := by show _ = _; kernel_rfl
theorem st253 : ST 253 := by show _ = _; kernel_rfl
theorem st254 : ST 254 := by show _ = _; kernel_rfl
theorem all3 : ∀ k, 210 ≤ k → k < 255 → ST k := by
  intro k h1 h2
  match k, h1, h2 with
  | 210, _, _ => exact st210
  | 211, _, _ => exact st211
  | 212, _, _ => exact st212
  | 213, _, _ => exact st213
  | 214, _, _ => exact st214
  | 215, _, _ => exact st215
  | 216, _, _ => exact st216
  | 217, _, _ => exact st217
  | 218, _, _ => exact st218
  | 219, _, _ => exact st219
  | 220, _, _ => exact st220
  | 221, _, _ => exact st221
  | 222, _, _ => exact st222
  | 223, _, _ => exact st223
  | 224, _, _ => exact st224
  | 225, _, _ => exact st225
  | 226, _, _ => exact st226
  | 227, _, _ => exact st227
  | 228, _, _ => exact st228
  | 229, _, _ => exact st229
  | 230, _, _ => exact st230
  | 231, _, _ => exact st231
  | 232, _, _ => exact st232
  | 233, _, _ => exact st233
  | 234, _, _ => exact st234
  | 235, _, _ => exact st235
  | 236, _, _ => exact st236
  | 237, _, _ => exact st237
  | 238, _, _ => exact st238
  | 239, _, _ => exact st239
  | 240, _, _ => exact st240
  | 241, _, _ => exact st241
  | 242, _, _ => exact st242
  | 243, _, _ => exact st243
  | 244, _, _ => exact st244
  | 245, _, _ => exact st245
  | 246, _, _ => exact st246
  | 247, _, _ => exact st247
  | 248, _, _ => exact st248
  | 249, _, _ => exact st249
  | 250, _, _ => exact st250
  | 251, _, _ => exact st251
  | 252, _, _ => exact st252
  | 253, _, _ => exact st253
  | 254, _, _ => exact st254
  | k + 255, _, h2 => omega
end Go.Proofs.Ytnlfhfpccpokpaa.AI
