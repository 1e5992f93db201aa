/- Functions of whole numbers, run with numbers that are not known. -/
import Derived.Test.YtjhlfolgadaliaaDoorSXg
import Derived.Test.YtjhlfolgadaliaaDoorSXj
import Derived.Laws.BitsLemmas
import Derived.KernelRfl
namespace Go.Proofs.YtjhlfolgadaliaaDoor.AI
open Go Go.RowKit 
set_option linter.unusedVariables false
set_option linter.unusedSimpArgs false
/-- A loop that changes temporaries alone, told by where it comes to. -/
theorem loop_plainO {P : Program} {gl : Nat → Option Nat} (hm : P.follows .mixedOrders = true) {call : CallA} (hcall : CallOK P gl call) {callK : CK (XA × List Value × AH × Nat)} (hK : CKok call callK) {hE : AH} {LO : LoopA} {LK : LoopK (XA × List Value × AH × Nat)} (hL : LKok LO LK) {c : Code} (hl : LoopsOK P gl hE LO (loopsOf c)) (ts : List Nat) {X : Type} (enc : X → List Value) (m : X → Nat) (out : X → XA × List Value) {n : Nat} {h : AH}
    (step : ∀ x, ∃ y vs, bodyRunK P gl call callK LK c (stT ts (enc x) n h) ts = some (y, vs, h, n) ∧ ((y = .normal ∧ ∃ x', vs = enc x' ∧ m x' < m x ∧ out x' = out x) ∨ (y ≠ .normal ∧ out x = (y, vs)))) :
    ∀ x, LoopTri P gl hE c (stT ts (enc x) n h) (out x).1 (stT ts (out x).2 n h) := by
  refine loop_rule (regF_ok hm) hcall hl (fun x => stT ts (enc x) n h) m (fun x => ((out x).1, stT ts (out x).2 n h)) fun x => ?_
  obtain ⟨y, vs, h1, h2⟩ := step x
  obtain ⟨σ1, g1, g2, g3, g4, g5⟩ := bodyRunK_some hK hL h1
  have cv : Covers gl hE (stT ts vs n h) σ1 := covers_T g4 (picks_mkT g2) g3.symm g5.symm
  refine ⟨y, σ1, g1, ?_⟩
  rcases h2 with ⟨rfl, x', rfl, k1, k2⟩ | ⟨k1, k2⟩
  · exact .inl ⟨rfl, x', k1, by rw [k2], cv⟩
  · exact .inr ⟨k1, by rw [k2], by rw [k2]; exact cv⟩
/-- A number read off bytes: one byte more. -/
def updB (u x i : Nat) : Nat := u ||| (x % 128 * 2 ^ (7 * i) % 2 ^ 64)
theorem updB_lt {u : Nat} (hu : u < 2 ^ 64) (x i : Nat) : updB u x i < 2 ^ 64 := Nat.or_lt_two_pow hu (Nat.mod_lt _ (Nat.two_pow_pos 64))
/-- What reading comes to: by a return; the number; its bytes; the two variables. -/
def takeF : List Nat → Nat → Nat → Bool × Nat × Nat × Nat × Nat
  | [], i, u => (false, 0, 0, u, i)
  | x :: r, i, u => if i = 9 ∧ 1 < x then (true, 0, 0, u, i) else if x < 128 then (if x = 0 ∧ 0 < i then (true, 0, 0, updB u x i, i) else (true, updB u x i, i + 1, updB u x i, i)) else takeF r (i + 1) (updB u x i)
theorem a8 (x : Nat) (hx : x < 256) : IntKind.wrap IntKind.u8 (↑(BitVec.toNat (BitVec.ofInt 8 (x : Int) &&& BitVec.ofInt 8 127)) : Int) = ((x % 128 : Nat) : Int) := by
  have e1 : BitVec.ofInt 8 (x : Int) = BitVec.ofNat 8 x := by simp
  have e2 : BitVec.ofInt 8 (127 : Int) = BitVec.ofNat 8 127 := rfl
  rw [e1, e2, BitVec.toNat_and, BitVec.toNat_ofNat, BitVec.toNat_ofNat, Nat.mod_eq_of_lt (show x < 2 ^ 8 from hx), show 127 % 2 ^ 8 = 2 ^ 7 - 1 from rfl, Nat.and_two_pow_sub_one_eq_mod, u8w]
  omega
theorem updI (u x k : Nat) (hu : u < 2 ^ 64) (hx : x < 256) : IntKind.wrap IntKind.u64 (↑(BitVec.toNat (BitVec.ofInt 64 (u : Int) ||| BitVec.ofInt 64 (IntKind.wrap IntKind.u64 (IntKind.wrap IntKind.u64 ((x % 128 : Nat) : Int) * 2 ^ Min.min (Int.toNat (k : Int)) 64)))) : Int) = ((u ||| (x % 128 * 2 ^ k % 2 ^ 64) : Nat) : Int) := by
  have e1 : IntKind.wrap IntKind.u64 ((x % 128 : Nat) : Int) = ((x % 128 : Nat) : Int) := by rw [u64w]; omega
  have e2 : IntKind.wrap IntKind.u64 (((x % 128 : Nat) : Int) * 2 ^ Min.min (Int.toNat (k : Int)) 64) = ((x % 128 * 2 ^ k % 2 ^ 64 : Nat) : Int) := shl_nat (x % 128) k
  rw [e1, e2]
  exact or_nat _ _ hu (Nat.mod_lt _ (Nat.two_pow_pos 64))
/-- A row of these bytes. -/
def BytesAt (bs : List Nat) (off : Nat) (cs : List Value) : Prop := (∀ x ∈ bs, x < 256) ∧ ∀ (i x : Nat), bs[i]? = some x → cs[off + i]? = some (bv x)
theorem BytesAt.get {bs : List Nat} {off : Nat} {cs : List Value} (h : BytesAt bs off cs) {i x : Nat} (hx : bs[i]? = some x) : isInt .u8 cs (off + Int.toNat (i : Int) * 1) = true ∧ intAt cs (off + Int.toNat (i : Int) * 1) = (x : Int) ∧ x < 256 := by
  have := h.2 i x hx
  rw [Int.toNat_natCast, Nat.mul_one]
  refine ⟨?_, ?_, h.1 x (List.mem_of_getElem? hx)⟩
  · unfold isInt; rw [this]; rfl
  · unfold intAt; rw [this]; rfl
noncomputable abbrev ZB (fn : Func) (ts : List Nat) (vs : List Value) := bodyRunK Tryd.prog gl0 (cA Tryd.prog [] noG) (cK Tryd.prog [] noG) noLK (loopN fn 0) (stT ts vs fn.ntmps h0) ts
theorem tB14 (l off : Nat) (ex : Bool) (cs : List Value) (j : Int) (a b v : Int) : ZB Tryd.f14 [2, 3, 4, 7, 8, 9] [.int .u64 a, .int .i64 b, .int .u64 v, gslV l off ex cs, .int .i64 (l : Int), .int .i64 j] = bif decide (j < (↑l : Int)) then bif decide (0 ≤ j) && decide (j < (↑l : Int)) then bif isInt IntKind.u8 cs (off + Int.toNat j * 1) then bif j == 9 then bif decide (intAt cs (off + Int.toNat j * 1) > 1) then some (XA.ret, [Value.int IntKind.u64 0, Value.int IntKind.i64 0, Value.int IntKind.u64 v, gslV l off ex cs, Value.int IntKind.i64 (↑l : Int), Value.int IntKind.i64 j], h0, 41) else bif decide (IntKind.wrap IntKind.u64 (7 * IntKind.wrap IntKind.u64 j) < 0) then none else bif decide (intAt cs (off + Int.toNat j * 1) < 128) then bif intAt cs (off + Int.toNat j * 1) == 0 then bif decide (j > 0) then some (XA.ret, [Value.int IntKind.u64 0, Value.int IntKind.i64 0, Value.int IntKind.u64 (IntKind.wrap IntKind.u64 (↑(BitVec.toNat (BitVec.ofInt 64 v ||| BitVec.ofInt 64 (IntKind.wrap IntKind.u64 (IntKind.wrap IntKind.u64 (IntKind.wrap IntKind.u8 (↑(BitVec.toNat (BitVec.ofInt 8 (intAt cs (off + Int.toNat j * 1)) &&& BitVec.ofInt 8 127)) : Int)) * 2 ^ Min.min (Int.toNat (IntKind.wrap IntKind.u64 (7 * IntKind.wrap IntKind.u64 j))) 64)))) : Int)), gslV l off ex cs, Value.int IntKind.i64 (↑l : Int), Value.int IntKind.i64 j], h0, 41) else some (XA.ret, [Value.int IntKind.u64 (IntKind.wrap IntKind.u64 (↑(BitVec.toNat (BitVec.ofInt 64 v ||| BitVec.ofInt 64 (IntKind.wrap IntKind.u64 (IntKind.wrap IntKind.u64 (IntKind.wrap IntKind.u8 (↑(BitVec.toNat (BitVec.ofInt 8 (intAt cs (off + Int.toNat j * 1)) &&& BitVec.ofInt 8 127)) : Int)) * 2 ^ Min.min (Int.toNat (IntKind.wrap IntKind.u64 (7 * IntKind.wrap IntKind.u64 j))) 64)))) : Int)), Value.int IntKind.i64 (IntKind.wrap IntKind.i64 (j + 1)), Value.int IntKind.u64 (IntKind.wrap IntKind.u64 (↑(BitVec.toNat (BitVec.ofInt 64 v ||| BitVec.ofInt 64 (IntKind.wrap IntKind.u64 (IntKind.wrap IntKind.u64 (IntKind.wrap IntKind.u8 (↑(BitVec.toNat (BitVec.ofInt 8 (intAt cs (off + Int.toNat j * 1)) &&& BitVec.ofInt 8 127)) : Int)) * 2 ^ Min.min (Int.toNat (IntKind.wrap IntKind.u64 (7 * IntKind.wrap IntKind.u64 j))) 64)))) : Int)), gslV l off ex cs, Value.int IntKind.i64 (↑l : Int), Value.int IntKind.i64 j], h0, 41) else some (XA.ret, [Value.int IntKind.u64 (IntKind.wrap IntKind.u64 (↑(BitVec.toNat (BitVec.ofInt 64 v ||| BitVec.ofInt 64 (IntKind.wrap IntKind.u64 (IntKind.wrap IntKind.u64 (IntKind.wrap IntKind.u8 (↑(BitVec.toNat (BitVec.ofInt 8 (intAt cs (off + Int.toNat j * 1)) &&& BitVec.ofInt 8 127)) : Int)) * 2 ^ Min.min (Int.toNat (IntKind.wrap IntKind.u64 (7 * IntKind.wrap IntKind.u64 j))) 64)))) : Int)), Value.int IntKind.i64 (IntKind.wrap IntKind.i64 (j + 1)), Value.int IntKind.u64 (IntKind.wrap IntKind.u64 (↑(BitVec.toNat (BitVec.ofInt 64 v ||| BitVec.ofInt 64 (IntKind.wrap IntKind.u64 (IntKind.wrap IntKind.u64 (IntKind.wrap IntKind.u8 (↑(BitVec.toNat (BitVec.ofInt 8 (intAt cs (off + Int.toNat j * 1)) &&& BitVec.ofInt 8 127)) : Int)) * 2 ^ Min.min (Int.toNat (IntKind.wrap IntKind.u64 (7 * IntKind.wrap IntKind.u64 j))) 64)))) : Int)), gslV l off ex cs, Value.int IntKind.i64 (↑l : Int), Value.int IntKind.i64 j], h0, 41) else some (XA.normal, [Value.int IntKind.u64 a, Value.int IntKind.i64 b, Value.int IntKind.u64 (IntKind.wrap IntKind.u64 (↑(BitVec.toNat (BitVec.ofInt 64 v ||| BitVec.ofInt 64 (IntKind.wrap IntKind.u64 (IntKind.wrap IntKind.u64 (IntKind.wrap IntKind.u8 (↑(BitVec.toNat (BitVec.ofInt 8 (intAt cs (off + Int.toNat j * 1)) &&& BitVec.ofInt 8 127)) : Int)) * 2 ^ Min.min (Int.toNat (IntKind.wrap IntKind.u64 (7 * IntKind.wrap IntKind.u64 j))) 64)))) : Int)), gslV l off ex cs, Value.int IntKind.i64 (↑l : Int), Value.int IntKind.i64 (IntKind.wrap IntKind.i64 (j + 1))], h0, 41) else bif decide (IntKind.wrap IntKind.u64 (7 * IntKind.wrap IntKind.u64 j) < 0) then none else bif decide (intAt cs (off + Int.toNat j * 1) < 128) then bif intAt cs (off + Int.toNat j * 1) == 0 then bif decide (j > 0) then some (XA.ret, [Value.int IntKind.u64 0, Value.int IntKind.i64 0, Value.int IntKind.u64 (IntKind.wrap IntKind.u64 (↑(BitVec.toNat (BitVec.ofInt 64 v ||| BitVec.ofInt 64 (IntKind.wrap IntKind.u64 (IntKind.wrap IntKind.u64 (IntKind.wrap IntKind.u8 (↑(BitVec.toNat (BitVec.ofInt 8 (intAt cs (off + Int.toNat j * 1)) &&& BitVec.ofInt 8 127)) : Int)) * 2 ^ Min.min (Int.toNat (IntKind.wrap IntKind.u64 (7 * IntKind.wrap IntKind.u64 j))) 64)))) : Int)), gslV l off ex cs, Value.int IntKind.i64 (↑l : Int), Value.int IntKind.i64 j], h0, 41) else some (XA.ret, [Value.int IntKind.u64 (IntKind.wrap IntKind.u64 (↑(BitVec.toNat (BitVec.ofInt 64 v ||| BitVec.ofInt 64 (IntKind.wrap IntKind.u64 (IntKind.wrap IntKind.u64 (IntKind.wrap IntKind.u8 (↑(BitVec.toNat (BitVec.ofInt 8 (intAt cs (off + Int.toNat j * 1)) &&& BitVec.ofInt 8 127)) : Int)) * 2 ^ Min.min (Int.toNat (IntKind.wrap IntKind.u64 (7 * IntKind.wrap IntKind.u64 j))) 64)))) : Int)), Value.int IntKind.i64 (IntKind.wrap IntKind.i64 (j + 1)), Value.int IntKind.u64 (IntKind.wrap IntKind.u64 (↑(BitVec.toNat (BitVec.ofInt 64 v ||| BitVec.ofInt 64 (IntKind.wrap IntKind.u64 (IntKind.wrap IntKind.u64 (IntKind.wrap IntKind.u8 (↑(BitVec.toNat (BitVec.ofInt 8 (intAt cs (off + Int.toNat j * 1)) &&& BitVec.ofInt 8 127)) : Int)) * 2 ^ Min.min (Int.toNat (IntKind.wrap IntKind.u64 (7 * IntKind.wrap IntKind.u64 j))) 64)))) : Int)), gslV l off ex cs, Value.int IntKind.i64 (↑l : Int), Value.int IntKind.i64 j], h0, 41) else some (XA.ret, [Value.int IntKind.u64 (IntKind.wrap IntKind.u64 (↑(BitVec.toNat (BitVec.ofInt 64 v ||| BitVec.ofInt 64 (IntKind.wrap IntKind.u64 (IntKind.wrap IntKind.u64 (IntKind.wrap IntKind.u8 (↑(BitVec.toNat (BitVec.ofInt 8 (intAt cs (off + Int.toNat j * 1)) &&& BitVec.ofInt 8 127)) : Int)) * 2 ^ Min.min (Int.toNat (IntKind.wrap IntKind.u64 (7 * IntKind.wrap IntKind.u64 j))) 64)))) : Int)), Value.int IntKind.i64 (IntKind.wrap IntKind.i64 (j + 1)), Value.int IntKind.u64 (IntKind.wrap IntKind.u64 (↑(BitVec.toNat (BitVec.ofInt 64 v ||| BitVec.ofInt 64 (IntKind.wrap IntKind.u64 (IntKind.wrap IntKind.u64 (IntKind.wrap IntKind.u8 (↑(BitVec.toNat (BitVec.ofInt 8 (intAt cs (off + Int.toNat j * 1)) &&& BitVec.ofInt 8 127)) : Int)) * 2 ^ Min.min (Int.toNat (IntKind.wrap IntKind.u64 (7 * IntKind.wrap IntKind.u64 j))) 64)))) : Int)), gslV l off ex cs, Value.int IntKind.i64 (↑l : Int), Value.int IntKind.i64 j], h0, 41) else some (XA.normal, [Value.int IntKind.u64 a, Value.int IntKind.i64 b, Value.int IntKind.u64 (IntKind.wrap IntKind.u64 (↑(BitVec.toNat (BitVec.ofInt 64 v ||| BitVec.ofInt 64 (IntKind.wrap IntKind.u64 (IntKind.wrap IntKind.u64 (IntKind.wrap IntKind.u8 (↑(BitVec.toNat (BitVec.ofInt 8 (intAt cs (off + Int.toNat j * 1)) &&& BitVec.ofInt 8 127)) : Int)) * 2 ^ Min.min (Int.toNat (IntKind.wrap IntKind.u64 (7 * IntKind.wrap IntKind.u64 j))) 64)))) : Int)), gslV l off ex cs, Value.int IntKind.i64 (↑l : Int), Value.int IntKind.i64 (IntKind.wrap IntKind.i64 (j + 1))], h0, 41) else none else none else some (XA.exit 0, [Value.int IntKind.u64 a, Value.int IntKind.i64 b, Value.int IntKind.u64 v, gslV l off ex cs, Value.int IntKind.i64 (↑l : Int), Value.int IntKind.i64 j], h0, 41) := by kernel_rfl
theorem tB27 (l off : Nat) (ex : Bool) (cs : List Value) (j : Int) (a b v : Int) : ZB Tryd.f27 [0, 2, 3, 4, 5] [gslV l off ex cs, .int .u64 a, .int .i64 b, .int .u64 v, .int .i64 j] = bif decide (j < (↑l : Int)) then bif decide (j < 10) then bif j == 9 then bif decide (0 ≤ j) && decide (j < (↑l : Int)) then bif isInt IntKind.u8 cs (off + Int.toNat j * 1) then bif decide (intAt cs (off + Int.toNat j * 1) > 1) then some (XA.ret, [gslV l off ex cs, Value.int IntKind.u64 0, Value.int IntKind.i64 0, Value.int IntKind.u64 v, Value.int IntKind.i64 j], h0, 54) else bif decide (0 ≤ j) && decide (j < (↑l : Int)) then bif isInt IntKind.u8 cs (off + Int.toNat j * 1) then bif decide (IntKind.wrap IntKind.u64 (IntKind.wrap IntKind.i64 (7 * j)) < 0) then none else bif decide (0 ≤ j) && decide (j < (↑l : Int)) then bif isInt IntKind.u8 cs (off + Int.toNat j * 1) then bif decide (intAt cs (off + Int.toNat j * 1) < 128) then bif decide (0 ≤ j) && decide (j < (↑l : Int)) then bif isInt IntKind.u8 cs (off + Int.toNat j * 1) then bif intAt cs (off + Int.toNat j * 1) == 0 then bif decide (j > 0) then some (XA.ret, [gslV l off ex cs, Value.int IntKind.u64 0, Value.int IntKind.i64 0, Value.int IntKind.u64 (IntKind.wrap IntKind.u64 (↑(BitVec.toNat (BitVec.ofInt 64 v ||| BitVec.ofInt 64 (IntKind.wrap IntKind.u64 (IntKind.wrap IntKind.u64 (IntKind.wrap IntKind.u8 (↑(BitVec.toNat (BitVec.ofInt 8 (intAt cs (off + Int.toNat j * 1)) &&& BitVec.ofInt 8 127)) : Int)) * 2 ^ Min.min (Int.toNat (IntKind.wrap IntKind.u64 (IntKind.wrap IntKind.i64 (7 * j)))) 64)))) : Int)), Value.int IntKind.i64 j], h0, 54) else some (XA.ret, [gslV l off ex cs, Value.int IntKind.u64 (IntKind.wrap IntKind.u64 (↑(BitVec.toNat (BitVec.ofInt 64 v ||| BitVec.ofInt 64 (IntKind.wrap IntKind.u64 (IntKind.wrap IntKind.u64 (IntKind.wrap IntKind.u8 (↑(BitVec.toNat (BitVec.ofInt 8 (intAt cs (off + Int.toNat j * 1)) &&& BitVec.ofInt 8 127)) : Int)) * 2 ^ Min.min (Int.toNat (IntKind.wrap IntKind.u64 (IntKind.wrap IntKind.i64 (7 * j)))) 64)))) : Int)), Value.int IntKind.i64 (IntKind.wrap IntKind.i64 (j + 1)), Value.int IntKind.u64 (IntKind.wrap IntKind.u64 (↑(BitVec.toNat (BitVec.ofInt 64 v ||| BitVec.ofInt 64 (IntKind.wrap IntKind.u64 (IntKind.wrap IntKind.u64 (IntKind.wrap IntKind.u8 (↑(BitVec.toNat (BitVec.ofInt 8 (intAt cs (off + Int.toNat j * 1)) &&& BitVec.ofInt 8 127)) : Int)) * 2 ^ Min.min (Int.toNat (IntKind.wrap IntKind.u64 (IntKind.wrap IntKind.i64 (7 * j)))) 64)))) : Int)), Value.int IntKind.i64 j], h0, 54) else some (XA.ret, [gslV l off ex cs, Value.int IntKind.u64 (IntKind.wrap IntKind.u64 (↑(BitVec.toNat (BitVec.ofInt 64 v ||| BitVec.ofInt 64 (IntKind.wrap IntKind.u64 (IntKind.wrap IntKind.u64 (IntKind.wrap IntKind.u8 (↑(BitVec.toNat (BitVec.ofInt 8 (intAt cs (off + Int.toNat j * 1)) &&& BitVec.ofInt 8 127)) : Int)) * 2 ^ Min.min (Int.toNat (IntKind.wrap IntKind.u64 (IntKind.wrap IntKind.i64 (7 * j)))) 64)))) : Int)), Value.int IntKind.i64 (IntKind.wrap IntKind.i64 (j + 1)), Value.int IntKind.u64 (IntKind.wrap IntKind.u64 (↑(BitVec.toNat (BitVec.ofInt 64 v ||| BitVec.ofInt 64 (IntKind.wrap IntKind.u64 (IntKind.wrap IntKind.u64 (IntKind.wrap IntKind.u8 (↑(BitVec.toNat (BitVec.ofInt 8 (intAt cs (off + Int.toNat j * 1)) &&& BitVec.ofInt 8 127)) : Int)) * 2 ^ Min.min (Int.toNat (IntKind.wrap IntKind.u64 (IntKind.wrap IntKind.i64 (7 * j)))) 64)))) : Int)), Value.int IntKind.i64 j], h0, 54) else none else none else some (XA.normal, [gslV l off ex cs, Value.int IntKind.u64 a, Value.int IntKind.i64 b, Value.int IntKind.u64 (IntKind.wrap IntKind.u64 (↑(BitVec.toNat (BitVec.ofInt 64 v ||| BitVec.ofInt 64 (IntKind.wrap IntKind.u64 (IntKind.wrap IntKind.u64 (IntKind.wrap IntKind.u8 (↑(BitVec.toNat (BitVec.ofInt 8 (intAt cs (off + Int.toNat j * 1)) &&& BitVec.ofInt 8 127)) : Int)) * 2 ^ Min.min (Int.toNat (IntKind.wrap IntKind.u64 (IntKind.wrap IntKind.i64 (7 * j)))) 64)))) : Int)), Value.int IntKind.i64 (IntKind.wrap IntKind.i64 (j + 1))], h0, 54) else none else none else none else none else none else none else bif decide (0 ≤ j) && decide (j < (↑l : Int)) then bif isInt IntKind.u8 cs (off + Int.toNat j * 1) then bif decide (IntKind.wrap IntKind.u64 (IntKind.wrap IntKind.i64 (7 * j)) < 0) then none else bif decide (0 ≤ j) && decide (j < (↑l : Int)) then bif isInt IntKind.u8 cs (off + Int.toNat j * 1) then bif decide (intAt cs (off + Int.toNat j * 1) < 128) then bif decide (0 ≤ j) && decide (j < (↑l : Int)) then bif isInt IntKind.u8 cs (off + Int.toNat j * 1) then bif intAt cs (off + Int.toNat j * 1) == 0 then bif decide (j > 0) then some (XA.ret, [gslV l off ex cs, Value.int IntKind.u64 0, Value.int IntKind.i64 0, Value.int IntKind.u64 (IntKind.wrap IntKind.u64 (↑(BitVec.toNat (BitVec.ofInt 64 v ||| BitVec.ofInt 64 (IntKind.wrap IntKind.u64 (IntKind.wrap IntKind.u64 (IntKind.wrap IntKind.u8 (↑(BitVec.toNat (BitVec.ofInt 8 (intAt cs (off + Int.toNat j * 1)) &&& BitVec.ofInt 8 127)) : Int)) * 2 ^ Min.min (Int.toNat (IntKind.wrap IntKind.u64 (IntKind.wrap IntKind.i64 (7 * j)))) 64)))) : Int)), Value.int IntKind.i64 j], h0, 54) else some (XA.ret, [gslV l off ex cs, Value.int IntKind.u64 (IntKind.wrap IntKind.u64 (↑(BitVec.toNat (BitVec.ofInt 64 v ||| BitVec.ofInt 64 (IntKind.wrap IntKind.u64 (IntKind.wrap IntKind.u64 (IntKind.wrap IntKind.u8 (↑(BitVec.toNat (BitVec.ofInt 8 (intAt cs (off + Int.toNat j * 1)) &&& BitVec.ofInt 8 127)) : Int)) * 2 ^ Min.min (Int.toNat (IntKind.wrap IntKind.u64 (IntKind.wrap IntKind.i64 (7 * j)))) 64)))) : Int)), Value.int IntKind.i64 (IntKind.wrap IntKind.i64 (j + 1)), Value.int IntKind.u64 (IntKind.wrap IntKind.u64 (↑(BitVec.toNat (BitVec.ofInt 64 v ||| BitVec.ofInt 64 (IntKind.wrap IntKind.u64 (IntKind.wrap IntKind.u64 (IntKind.wrap IntKind.u8 (↑(BitVec.toNat (BitVec.ofInt 8 (intAt cs (off + Int.toNat j * 1)) &&& BitVec.ofInt 8 127)) : Int)) * 2 ^ Min.min (Int.toNat (IntKind.wrap IntKind.u64 (IntKind.wrap IntKind.i64 (7 * j)))) 64)))) : Int)), Value.int IntKind.i64 j], h0, 54) else some (XA.ret, [gslV l off ex cs, Value.int IntKind.u64 (IntKind.wrap IntKind.u64 (↑(BitVec.toNat (BitVec.ofInt 64 v ||| BitVec.ofInt 64 (IntKind.wrap IntKind.u64 (IntKind.wrap IntKind.u64 (IntKind.wrap IntKind.u8 (↑(BitVec.toNat (BitVec.ofInt 8 (intAt cs (off + Int.toNat j * 1)) &&& BitVec.ofInt 8 127)) : Int)) * 2 ^ Min.min (Int.toNat (IntKind.wrap IntKind.u64 (IntKind.wrap IntKind.i64 (7 * j)))) 64)))) : Int)), Value.int IntKind.i64 (IntKind.wrap IntKind.i64 (j + 1)), Value.int IntKind.u64 (IntKind.wrap IntKind.u64 (↑(BitVec.toNat (BitVec.ofInt 64 v ||| BitVec.ofInt 64 (IntKind.wrap IntKind.u64 (IntKind.wrap IntKind.u64 (IntKind.wrap IntKind.u8 (↑(BitVec.toNat (BitVec.ofInt 8 (intAt cs (off + Int.toNat j * 1)) &&& BitVec.ofInt 8 127)) : Int)) * 2 ^ Min.min (Int.toNat (IntKind.wrap IntKind.u64 (IntKind.wrap IntKind.i64 (7 * j)))) 64)))) : Int)), Value.int IntKind.i64 j], h0, 54) else none else none else some (XA.normal, [gslV l off ex cs, Value.int IntKind.u64 a, Value.int IntKind.i64 b, Value.int IntKind.u64 (IntKind.wrap IntKind.u64 (↑(BitVec.toNat (BitVec.ofInt 64 v ||| BitVec.ofInt 64 (IntKind.wrap IntKind.u64 (IntKind.wrap IntKind.u64 (IntKind.wrap IntKind.u8 (↑(BitVec.toNat (BitVec.ofInt 8 (intAt cs (off + Int.toNat j * 1)) &&& BitVec.ofInt 8 127)) : Int)) * 2 ^ Min.min (Int.toNat (IntKind.wrap IntKind.u64 (IntKind.wrap IntKind.i64 (7 * j)))) 64)))) : Int)), Value.int IntKind.i64 (IntKind.wrap IntKind.i64 (j + 1))], h0, 54) else none else none else none else none else some (XA.exit 0, [gslV l off ex cs, Value.int IntKind.u64 a, Value.int IntKind.i64 b, Value.int IntKind.u64 v, Value.int IntKind.i64 j], h0, 54) else some (XA.exit 0, [gslV l off ex cs, Value.int IntKind.u64 a, Value.int IntKind.i64 b, Value.int IntKind.u64 v, Value.int IntKind.i64 j], h0, 54) := by kernel_rfl
theorem tR14 (l off : Nat) (ex : Bool) (cs pre : List Value) (r n v j : Int) : RX Tryd.prog [] noG (lkC 3 [2, 3, 4, 7, 8, 9] pre [.int .u64 r, .int .i64 n, .int .u64 v, gslV l off ex cs, .int .i64 (l : Int), .int .i64 j] 41 .ret) Tryd.f14 [gslV l off ex cs] 0 = bif tst ([Value.int IntKind.u64 0, Value.int IntKind.i64 0, Value.int IntKind.u64 0, gslV l off ex cs, Value.int IntKind.i64 (↑l : Int), Value.int IntKind.i64 0] = pre ∧ h0 = h0 ∧ 41 = 41) then some (Value.tuple { toList := [Value.int IntKind.u64 r, Value.int IntKind.i64 n] }) else none := by kernel_rfl
theorem tE14 (l off : Nat) (ex : Bool) (cs pre : List Value) (r n v j : Int) : RX Tryd.prog [] noG (lkC 3 [2, 3, 4, 7, 8, 9] pre [.int .u64 r, .int .i64 n, .int .u64 v, gslV l off ex cs, .int .i64 (l : Int), .int .i64 j] 41 (.exit 0)) Tryd.f14 [gslV l off ex cs] 0 = bif tst ([Value.int IntKind.u64 0, Value.int IntKind.i64 0, Value.int IntKind.u64 0, gslV l off ex cs, Value.int IntKind.i64 (↑l : Int), Value.int IntKind.i64 0] = pre ∧ h0 = h0 ∧ 41 = 41) then some (Value.tuple { toList := [Value.int IntKind.u64 0, Value.int IntKind.i64 0] }) else none := by kernel_rfl
theorem tR27 (l off : Nat) (ex : Bool) (cs pre : List Value) (r n v j : Int) : RX Tryd.prog [] noG (lkC 3 [0, 2, 3, 4, 5] pre [gslV l off ex cs, .int .u64 r, .int .i64 n, .int .u64 v, .int .i64 j] 54 .ret) Tryd.f27 [gslV l off ex cs] 0 = bif tst ([gslV l off ex cs, Value.int IntKind.u64 0, Value.int IntKind.i64 0, Value.int IntKind.u64 0, Value.int IntKind.i64 0] = pre ∧ h0 = h0 ∧ 54 = 54) then some (Value.tuple { toList := [Value.int IntKind.u64 r, Value.int IntKind.i64 n] }) else none := by kernel_rfl
theorem tE27 (l off : Nat) (ex : Bool) (cs pre : List Value) (r n v j : Int) : RX Tryd.prog [] noG (lkC 3 [0, 2, 3, 4, 5] pre [gslV l off ex cs, .int .u64 r, .int .i64 n, .int .u64 v, .int .i64 j] 54 (.exit 0)) Tryd.f27 [gslV l off ex cs] 0 = bif tst ([gslV l off ex cs, Value.int IntKind.u64 0, Value.int IntKind.i64 0, Value.int IntKind.u64 0, Value.int IntKind.i64 0] = pre ∧ h0 = h0 ∧ 54 = 54) then some (Value.tuple { toList := [Value.int IntKind.u64 0, Value.int IntKind.i64 0] }) else none := by kernel_rfl
def xOf (b : Bool) : XA := match b with | true => .ret | false => .exit 0
theorem drop_get {bs : List Nat} {i : Nat} (h : i < bs.length) : ∃ x, bs[i]? = some x ∧ bs.drop i = x :: bs.drop (i + 1) :=
  ⟨bs[i], List.getElem?_eq_getElem h, List.drop_eq_getElem_cons h⟩
theorem lp14 (bs : List Nat) (off : Nat) (ex : Bool) (cs : List Value) (hb : BytesAt bs off cs) (F : Bool × Nat × Nat × Nat × Nat) (hF : takeF bs 0 0 = F) : LoopTri Tryd.prog gl0 h0 (loopN Tryd.f14 0)
    (stT [2, 3, 4, 7, 8, 9] [.int .u64 0, .int .i64 0, .int .u64 0, gslV bs.length off ex cs, .int .i64 ((bs.length : Nat) : Int), .int .i64 0] 41 h0) (xOf F.1) (stT [2, 3, 4, 7, 8, 9] [.int .u64 ((F.2.1 : Nat) : Int), .int .i64 ((F.2.2.1 : Nat) : Int), .int .u64 ((F.2.2.2.1 : Nat) : Int), gslV bs.length off ex cs, .int .i64 ((bs.length : Nat) : Int), .int .i64 ((F.2.2.2.2 : Nat) : Int)] 41 h0) := by
  have := loop_plainO (n := 41) (h := h0) hmix (cA_ok (ins := []) noG_ok) (cK_ok (ins := [])) noLK_ok (c := loopN Tryd.f14 0) noLO_ok [2, 3, 4, 7, 8, 9] (X := {p : Nat × Nat // p.1 ≤ 9 ∧ p.1 ≤ bs.length ∧ p.2 < 2 ^ 64 ∧ takeF (bs.drop p.1) p.1 p.2 = F})
    (fun p => [.int .u64 0, .int .i64 0, .int .u64 ((p.1.2 : Nat) : Int), gslV bs.length off ex cs, .int .i64 ((bs.length : Nat) : Int), .int .i64 ((p.1.1 : Nat) : Int)]) (fun p => bs.length - p.1.1)
    (fun _ => (xOf F.1, [.int .u64 ((F.2.1 : Nat) : Int), .int .i64 ((F.2.2.1 : Nat) : Int), .int .u64 ((F.2.2.2.1 : Nat) : Int), gslV bs.length off ex cs, .int .i64 ((bs.length : Nat) : Int), .int .i64 ((F.2.2.2.2 : Nat) : Int)])) (hE := h0) ?_ ⟨(0, 0), by decide, Nat.zero_le _, by decide, hF⟩
  · exact this
  · rintro ⟨⟨i, u⟩, hi9, hil, hu, hT⟩
    dsimp only at hi9 hil hu hT ⊢
    by_cases hl : i < bs.length
    · obtain ⟨x, hx, hd⟩ := drop_get hl
      obtain ⟨k1, k2, k3⟩ := hb.get hx
      rw [hd, takeF] at hT
      have e := tB14 bs.length off ex cs (i : Int) 0 0 (u : Int)
      have e1 : IntKind.u64.wrap (7 * IntKind.u64.wrap (i : Int)) = ((7 * i : Nat) : Int) := by rw [u64w, u64w]; omega
      have e2 := updI u x (7 * i) hu k3
      have e3 : IntKind.i64.wrap ((i : Int) + 1) = ((i + 1 : Nat) : Int) := by rw [i64w]; omega
      have e4 : u ||| x % 128 * 2 ^ (7 * i) % 2 ^ 64 = updB u x i := rfl
      rw [e4] at e2
      simp only [k1, k2, a8 x k3, e1, e2, e3, decide_eq_true (show (i : Int) < (bs.length : Int) by omega), decide_eq_true (show (0 : Int) ≤ i by omega), decide_eq_true (show (i : Int) < 10 by omega), decide_eq_false (show ¬ ((7 * i : Nat) : Int) < 0 by omega), Bool.and_self, cond_true, cond_false] at e
      by_cases h9 : i = 9
      · subst h9
        simp only [show (((9 : Nat) : Int) == 9) = true from rfl, cond_true] at e
        by_cases hx1 : 1 < x
        · rw [if_pos ⟨rfl, hx1⟩] at hT
          subst hT
          rw [decide_eq_true (show (x : Int) > 1 by omega)] at e
          exact ⟨_, _, e, .inr ⟨by simp, rfl⟩⟩
        · rw [if_neg (by omega), if_pos (show x < 128 by omega)] at hT
          rw [decide_eq_false (show ¬ (x : Int) > 1 by omega), decide_eq_true (show (x : Int) < 128 by omega)] at e
          by_cases hx0 : x = 0
          · rw [if_pos ⟨hx0, by omega⟩] at hT
            subst hT
            rw [show ((x : Int) == 0) = true by rw [hx0]; rfl] at e
            exact ⟨_, _, e, .inr ⟨by simp, rfl⟩⟩
          · rw [if_neg (by omega)] at hT
            subst hT
            rw [show ((x : Int) == 0) = false by rw [beq_eq_false_iff_ne]; omega] at e
            exact ⟨_, _, e, .inr ⟨by simp, rfl⟩⟩
      · rw [if_neg (by omega)] at hT
        simp only [show (((i : Nat) : Int) == 9) = false by rw [beq_eq_false_iff_ne]; omega, cond_false] at e
        by_cases hx2 : x < 128
        · rw [if_pos hx2] at hT
          rw [decide_eq_true (show (x : Int) < 128 by omega)] at e
          by_cases hx0 : x = 0
          · simp only [show ((x : Int) == 0) = true by rw [hx0]; rfl, cond_true] at e
            by_cases hi0 : 0 < i
            · rw [if_pos ⟨hx0, hi0⟩] at hT
              subst hT
              rw [decide_eq_true (show (i : Int) > 0 by omega)] at e
              exact ⟨_, _, e, .inr ⟨by simp, rfl⟩⟩
            · rw [if_neg (by omega)] at hT
              subst hT
              rw [decide_eq_false (show ¬ (i : Int) > 0 by omega)] at e
              exact ⟨_, _, e, .inr ⟨by simp, rfl⟩⟩
          · rw [if_neg (by omega)] at hT
            subst hT
            simp only [show ((x : Int) == 0) = false by rw [beq_eq_false_iff_ne]; omega, cond_false] at e
            exact ⟨_, _, e, .inr ⟨by simp, rfl⟩⟩
        · rw [if_neg hx2] at hT
          rw [decide_eq_false (show ¬ (x : Int) < 128 by omega)] at e
          exact ⟨_, _, e, .inl ⟨rfl, ⟨(i + 1, updB u x i), by omega, hl, updB_lt hu x i, hT⟩, rfl, by dsimp only; omega, rfl⟩⟩
    · obtain rfl : i = bs.length := by omega
      rw [List.drop_length, takeF] at hT
      subst hT
      have e := tB14 bs.length off ex cs ((bs.length : Nat) : Int) 0 0 (u : Int)
      rw [decide_eq_false (show ¬ ((bs.length : Nat) : Int) < bs.length by omega)] at e
      exact ⟨_, _, e, .inr ⟨by simp, rfl⟩⟩
theorem lp27 (bs : List Nat) (off : Nat) (ex : Bool) (cs : List Value) (hb : BytesAt bs off cs) (F : Bool × Nat × Nat × Nat × Nat) (hF : takeF bs 0 0 = F) : LoopTri Tryd.prog gl0 h0 (loopN Tryd.f27 0)
    (stT [0, 2, 3, 4, 5] [gslV bs.length off ex cs, .int .u64 0, .int .i64 0, .int .u64 0, .int .i64 0] 54 h0) (xOf F.1) (stT [0, 2, 3, 4, 5] [gslV bs.length off ex cs, .int .u64 ((F.2.1 : Nat) : Int), .int .i64 ((F.2.2.1 : Nat) : Int), .int .u64 ((F.2.2.2.1 : Nat) : Int), .int .i64 ((F.2.2.2.2 : Nat) : Int)] 54 h0) := by
  have := loop_plainO (n := 54) (h := h0) hmix (cA_ok (ins := []) noG_ok) (cK_ok (ins := [])) noLK_ok (c := loopN Tryd.f27 0) noLO_ok [0, 2, 3, 4, 5] (X := {p : Nat × Nat // p.1 ≤ 9 ∧ p.1 ≤ bs.length ∧ p.2 < 2 ^ 64 ∧ takeF (bs.drop p.1) p.1 p.2 = F})
    (fun p => [gslV bs.length off ex cs, .int .u64 0, .int .i64 0, .int .u64 ((p.1.2 : Nat) : Int), .int .i64 ((p.1.1 : Nat) : Int)]) (fun p => bs.length - p.1.1)
    (fun _ => (xOf F.1, [gslV bs.length off ex cs, .int .u64 ((F.2.1 : Nat) : Int), .int .i64 ((F.2.2.1 : Nat) : Int), .int .u64 ((F.2.2.2.1 : Nat) : Int), .int .i64 ((F.2.2.2.2 : Nat) : Int)])) (hE := h0) ?_ ⟨(0, 0), by decide, Nat.zero_le _, by decide, hF⟩
  · exact this
  · rintro ⟨⟨i, u⟩, hi9, hil, hu, hT⟩
    dsimp only at hi9 hil hu hT ⊢
    by_cases hl : i < bs.length
    · obtain ⟨x, hx, hd⟩ := drop_get hl
      obtain ⟨k1, k2, k3⟩ := hb.get hx
      rw [hd, takeF] at hT
      have e := tB27 bs.length off ex cs (i : Int) 0 0 (u : Int)
      have e1 : IntKind.u64.wrap (IntKind.i64.wrap (7 * (i : Int))) = ((7 * i : Nat) : Int) := by rw [u64w, i64w]; omega
      have e2 := updI u x (7 * i) hu k3
      have e3 : IntKind.i64.wrap ((i : Int) + 1) = ((i + 1 : Nat) : Int) := by rw [i64w]; omega
      have e4 : u ||| x % 128 * 2 ^ (7 * i) % 2 ^ 64 = updB u x i := rfl
      rw [e4] at e2
      simp only [k1, k2, a8 x k3, e1, e2, e3, decide_eq_true (show (i : Int) < (bs.length : Int) by omega), decide_eq_true (show (0 : Int) ≤ i by omega), decide_eq_true (show (i : Int) < 10 by omega), decide_eq_false (show ¬ ((7 * i : Nat) : Int) < 0 by omega), Bool.and_self, cond_true, cond_false] at e
      by_cases h9 : i = 9
      · subst h9
        simp only [show (((9 : Nat) : Int) == 9) = true from rfl, cond_true] at e
        by_cases hx1 : 1 < x
        · rw [if_pos ⟨rfl, hx1⟩] at hT
          subst hT
          rw [decide_eq_true (show (x : Int) > 1 by omega)] at e
          exact ⟨_, _, e, .inr ⟨by simp, rfl⟩⟩
        · rw [if_neg (by omega), if_pos (show x < 128 by omega)] at hT
          rw [decide_eq_false (show ¬ (x : Int) > 1 by omega), decide_eq_true (show (x : Int) < 128 by omega)] at e
          by_cases hx0 : x = 0
          · rw [if_pos ⟨hx0, by omega⟩] at hT
            subst hT
            rw [show ((x : Int) == 0) = true by rw [hx0]; rfl] at e
            exact ⟨_, _, e, .inr ⟨by simp, rfl⟩⟩
          · rw [if_neg (by omega)] at hT
            subst hT
            rw [show ((x : Int) == 0) = false by rw [beq_eq_false_iff_ne]; omega] at e
            exact ⟨_, _, e, .inr ⟨by simp, rfl⟩⟩
      · rw [if_neg (by omega)] at hT
        simp only [show (((i : Nat) : Int) == 9) = false by rw [beq_eq_false_iff_ne]; omega, cond_false] at e
        by_cases hx2 : x < 128
        · rw [if_pos hx2] at hT
          rw [decide_eq_true (show (x : Int) < 128 by omega)] at e
          by_cases hx0 : x = 0
          · simp only [show ((x : Int) == 0) = true by rw [hx0]; rfl, cond_true] at e
            by_cases hi0 : 0 < i
            · rw [if_pos ⟨hx0, hi0⟩] at hT
              subst hT
              rw [decide_eq_true (show (i : Int) > 0 by omega)] at e
              exact ⟨_, _, e, .inr ⟨by simp, rfl⟩⟩
            · rw [if_neg (by omega)] at hT
              subst hT
              rw [decide_eq_false (show ¬ (i : Int) > 0 by omega)] at e
              exact ⟨_, _, e, .inr ⟨by simp, rfl⟩⟩
          · rw [if_neg (by omega)] at hT
            subst hT
            simp only [show ((x : Int) == 0) = false by rw [beq_eq_false_iff_ne]; omega, cond_false] at e
            exact ⟨_, _, e, .inr ⟨by simp, rfl⟩⟩
        · rw [if_neg hx2] at hT
          rw [decide_eq_false (show ¬ (x : Int) < 128 by omega)] at e
          exact ⟨_, _, e, .inl ⟨rfl, ⟨(i + 1, updB u x i), by omega, hl, updB_lt hu x i, hT⟩, rfl, by dsimp only; omega, rfl⟩⟩
    · obtain rfl : i = bs.length := by omega
      rw [List.drop_length, takeF] at hT
      subst hT
      have e := tB27 bs.length off ex cs ((bs.length : Nat) : Int) 0 0 (u : Int)
      rw [decide_eq_false (show ¬ ((bs.length : Nat) : Int) < bs.length by omega)] at e
      exact ⟨_, _, e, .inr ⟨by simp, rfl⟩⟩
theorem takeF_exit : ∀ (bs : List Nat) (i u : Nat), (takeF bs i u).1 = false → (takeF bs i u).2.1 = 0 ∧ (takeF bs i u).2.2.1 = 0 := by
  intro bs
  induction bs with
  | nil => intro i u _; exact ⟨rfl, rfl⟩
  | cons x r ih =>
    intro i u h
    rw [takeF] at h ⊢
    split at h <;> rename_i h1
    · cases h
    · rw [if_neg h1]
      split at h <;> rename_i h2
      · split at h <;> cases h
      · rw [if_neg h2]
        exact ih _ _ h
theorem take14_con (bs : List Nat) (off : Nat) (ex : Bool) (cs : List Value) (hb : BytesAt bs off cs) : ConG Tryd.prog 14 [gslV bs.length off ex cs] (.tuple ⟨[.int .u64 (((takeF bs 0 0).2.1 : Nat) : Int), .int .i64 (((takeF bs 0 0).2.2.1 : Nat) : Int)]⟩) := by
  have hlp := lp14 bs off ex cs hb _ rfl
  cases h : (takeF bs 0 0).1 with
  | true =>
    rw [h] at hlp
    refine conG hmix (cA_ok (ins := []) noG_ok) (cK_ok (ins := [])) (lkQ_ok noLK_ok) Tryd.func14 rfl (by kernel_rfl) (loC_ok (r := 3) (by kernel_rfl) hlp) (d := 1) ?_
    refine (tR14 _ _ _ _ _ _ _ _ _).trans ?_
    rw [tst_of ⟨rfl, rfl, rfl⟩]; rfl
  | false =>
    rw [h] at hlp
    obtain ⟨e1, e2⟩ := takeF_exit bs 0 0 h
    refine conG hmix (cA_ok (ins := []) noG_ok) (cK_ok (ins := [])) (lkQ_ok noLK_ok) Tryd.func14 rfl (by kernel_rfl) (loC_ok (r := 3) (by kernel_rfl) hlp) (d := 1) ?_
    refine (tE14 _ _ _ _ _ _ _ _ _).trans ?_
    rw [tst_of ⟨rfl, rfl, rfl⟩, e1, e2]; rfl
theorem take27_con (bs : List Nat) (off : Nat) (ex : Bool) (cs : List Value) (hb : BytesAt bs off cs) : ConG Tryd.prog 27 [gslV bs.length off ex cs] (.tuple ⟨[.int .u64 (((takeF bs 0 0).2.1 : Nat) : Int), .int .i64 (((takeF bs 0 0).2.2.1 : Nat) : Int)]⟩) := by
  have hlp := lp27 bs off ex cs hb _ rfl
  cases h : (takeF bs 0 0).1 with
  | true =>
    rw [h] at hlp
    refine conG hmix (cA_ok (ins := []) noG_ok) (cK_ok (ins := [])) (lkQ_ok noLK_ok) Tryd.func27 rfl (by kernel_rfl) (loC_ok (r := 3) (by kernel_rfl) hlp) (d := 1) ?_
    refine (tR27 _ _ _ _ _ _ _ _ _).trans ?_
    rw [tst_of ⟨rfl, rfl, rfl⟩]; rfl
  | false =>
    rw [h] at hlp
    obtain ⟨e1, e2⟩ := takeF_exit bs 0 0 h
    refine conG hmix (cA_ok (ins := []) noG_ok) (cK_ok (ins := [])) (lkQ_ok noLK_ok) Tryd.func27 rfl (by kernel_rfl) (loC_ok (r := 3) (by kernel_rfl) hlp) (d := 1) ?_
    refine (tE27 _ _ _ _ _ _ _ _ _).trans ?_
    rw [tst_of ⟨rfl, rfl, rfl⟩, e1, e2]; rfl
end Go.Proofs.YtjhlfolgadaliaaDoor.AI
