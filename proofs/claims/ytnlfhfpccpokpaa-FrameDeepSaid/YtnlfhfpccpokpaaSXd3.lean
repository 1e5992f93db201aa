/- Calls upon calls: rounds 256 to 299 on the way up, each one run. -/
import Derived.Test.YtnlfhfpccpokpaaSXd
import Derived.KernelRfl
import Derived.Laws.BitsLemmas
namespace Go.Proofs.Ytnlfhfpccpokpaa.AI
open Go Go.RowKit
set_option linter.unusedVariables false
set_option linter.unusedSimpArgs false
set_option maxRecDepth 100000
theorem up256 : UP 256 := by intro n v; kernel_rfl
theorem up257 : UP 257 := by intro n v; kernel_rfl
theorem up258 : UP 258 := by intro n v; kernel_rfl
theorem up259 : UP 259 := by intro n v; kernel_rfl
theorem up260 : UP 260 := by intro n v; kernel_rfl
theorem up261 : UP 261 := by intro n v; kernel_rfl
theorem up262 : UP 262 := by intro n v; kernel_rfl
theorem up263 : UP 263 := by intro n v; kernel_rfl
theorem up264 : UP 264 := by intro n v; kernel_rfl
theorem up265 : UP 265 := by intro n v; kernel_rfl
theorem up266 : UP 266 := by intro n v; kernel_rfl
theorem up267 : UP 267 := by intro n v; kernel_rfl
theorem up268 : UP 268 := by intro n v; kernel_rfl
theorem up269 : UP 269 := by intro n v; kernel_rfl
theorem up270 : UP 270 := by intro n v; kernel_rfl
theorem up271 : UP 271 := by intro n v; kernel_rfl
theorem up272 : UP 272 := by intro n v; kernel_rfl
theorem up273 : UP 273 := by intro n v; kernel_rfl
theorem up274 : UP 274 := by intro n v; kernel_rfl
theorem up275 : UP 275 := by intro n v; kernel_rfl
theorem up276 : UP 276 := by intro n v; kernel_rfl
theorem up277 : UP 277 := by intro n v; kernel_rfl
theorem up278 : UP 278 := by intro n v; kernel_rfl
theorem up279 : UP 279 := by intro n v; kernel_rfl
theorem up280 : UP 280 := by intro n v; kernel_rfl
theorem up281 : UP 281 := by intro n v; kernel_rfl
theorem up282 : UP 282 := by intro n v; kernel_rfl
theorem up283 : UP 283 := by intro n v; kernel_rfl
theorem up284 : UP 284 := by intro n v; kernel_rfl
theorem up285 : UP 285 := by intro n v; kernel_rfl
theorem up286 : UP 286 := by intro n v; kernel_rfl
theorem up287 : UP 287 := by intro n v; kernel_rfl
theorem up288 : UP 288 := by intro n v; kernel_rfl
theorem up289 : UP 289 := by intro n v; kernel_rfl
theorem up290 : UP 290 := by intro n v; kernel_rfl
theorem up291 : UP 291 := by intro n v; kernel_rfl
theorem up292 : UP 292 := by intro n v; kernel_rfl
theorem up293 : UP 293 := by intro n v; kernel_rfl
theorem up294 : UP 294 := by intro n v; kernel_rfl
theorem up295 : UP 295 := by intro n v; kernel_rfl
theorem up296 : UP 296 := by intro n v; kernel_rfl
theorem up297 : UP 297 := by intro n v; kernel_rfl
theorem up298 : UP 298 := by intro n v; kernel_rfl
theorem up299 : UP 299 := by intro n v; kernel_rfl
theorem all_up_3 : ∀ j, j < 44 → UP (256 + j) := by
  intro j h
  match j, h with
  | 0, _ => exact up256
  | 1, _ => exact up257
  | 2, _ => exact up258
  | 3, _ => exact up259
  | 4, _ => exact up260
  | 5, _ => exact up261
  | 6, _ => exact up262
  | 7, _ => exact up263
  | 8, _ => exact up264
  | 9, _ => exact up265
  | 10, _ => exact up266
  | 11, _ => exact up267
  | 12, _ => exact up268
  | 13, _ => exact up269
  | 14, _ => exact up270
  | 15, _ => exact up271
  | 16, _ => exact up272
  | 17, _ => exact up273
  | 18, _ => exact up274
  | 19, _ => exact up275
  | 20, _ => exact up276
  | 21, _ => exact up277
  | 22, _ => exact up278
  | 23, _ => exact up279
  | 24, _ => exact up280
  | 25, _ => exact up281
  | 26, _ => exact up282
  | 27, _ => exact up283
  | 28, _ => exact up284
  | 29, _ => exact up285
  | 30, _ => exact up286
  | 31, _ => exact up287
  | 32, _ => exact up288
  | 33, _ => exact up289
  | 34, _ => exact up290
  | 35, _ => exact up291
  | 36, _ => exact up292
  | 37, _ => exact up293
  | 38, _ => exact up294
  | 39, _ => exact up295
  | 40, _ => exact up296
  | 41, _ => exact up297
  | 42, _ => exact up298
  | 43, _ => exact up299
  | j + 44, h => omega
end Go.Proofs.Ytnlfhfpccpokpaa.AI
