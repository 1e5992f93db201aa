/- A queue of addresses: what is put in comes out in its order (loops by induction). -/
import Derived.Test.YtkjiomdgdnjgiaaProg
import Derived.Test.YtkjiomdgdnjgiaaAIld
import Derived.Laws.BitsLemmas
import Derived.KernelRfl
namespace Go.Proofs.Ytkjiomdgdnjgiaa.AI
open Go Go.RowKit
set_option linter.unusedVariables false
set_option linter.unusedSimpArgs false
/-- A queue's blocks. -/
def q0 : List Blk := [.row false 1 [.slice none 0 0]]
def q1 (n c : Nat) (cs : List Value) : List Blk := [.row false 1 [.slice (some ⟨1, 0, none⟩) n c], .row false 1 cs]
def qp : Value := .pointer (some ⟨0, 0, none⟩)
noncomputable abbrev RH (P : Program) (fn : Func) (k : Nat) (ts ids : List Nat) (vs : List Value) (h : AH) : Option (XA × List Value × List Blk × Nat) := codeBK P gl0 (regF P gl0) (callA P gl0 (regF P gl0) 20 false) (inK P gl0 (regF P gl0) 20) (toLK noLO) (loopN fn k) (stT ts vs fn.ntmps h) (finH ts ids)
def xv (a k : Int) : Int := IntKind.wrap IntKind.i64 (↑(BitVec.toNat (BitVec.ofInt 64 a ^^^ BitVec.ofInt 64 k)) : Int)
def i (a : Int) : Value := .int .i64 a
set_option maxRecDepth 100000
theorem tA (n0 at0 : Int) : RH Try.prog Try.f5 0 [0,1,5,6] [0,2] [i n0, i at0, qp, i 0] (mkH q0) = (bif decide (0 < n0) then some (XA.normal, [Value.int IntKind.i64 n0, Value.int IntKind.i64 at0, Value.pointer (some { block := 0, off := 0 }), Value.int IntKind.i64 (IntKind.wrap IntKind.i64 (0 + 1))], [Blk.row Bool.false 1 [Value.slice (some { block := 2, off := 0 }) 1 3], Blk.row Bool.false 1 [Value.int IntKind.i64 (xv at0 0)]], 73) else none) := by kernel_rfl
theorem tAx (n0 at0 : Int) : RH Try.prog Try.f5 0 [0,1,5,6] [0] [i n0, i at0, qp, i 0] (mkH q0) = (bif decide (0 < n0) then some (XA.normal, [Value.int IntKind.i64 n0, Value.int IntKind.i64 at0, Value.pointer (some { block := 0, off := 0 }), Value.int IntKind.i64 (IntKind.wrap IntKind.i64 (0 + 1))], [Blk.row Bool.false 1 [Value.slice (some { block := 2, off := 0 }) 1 3]], 73) else some (XA.exit 0, [Value.int IntKind.i64 n0, Value.int IntKind.i64 at0, Value.pointer (some { block := 0, off := 0 }), Value.int IntKind.i64 0], [Blk.row Bool.false 1 [Value.slice none 0 0]], 73)) := by kernel_rfl
theorem tB (n0 at0 k : Int) (n : Nat) (x : Int) (cs : List Value) : RH Try.prog Try.f5 0 [0,1,5,6] [0,3] [i n0, i at0, qp, i k] (mkH (q1 (n+1) (2*(n+1)+1) (i x :: cs))) = (bif decide (k < n0) then bif Nat.ble (n + 1 + 1) ((2 * (n + 1) + 1) / 2) then bif Nat.ble (0 + (n + 1) * 1 + 1) (List.length cs + 1) then bif Int.tmod k 3 == 2 then bif decide (0 < (↑(n + 1 + 1) : Int)) then bif Nat.ble (n + 1 + 1) ((2 * (n + 1) + 1) / 2) then bif Nat.beq ((2 * (n + 1) + 1) % 2) 0 then bif x != xv at0 (IntKind.wrap IntKind.i64 (Int.tdiv k 3)) then none else none else bif x != xv at0 (IntKind.wrap IntKind.i64 (Int.tdiv k 3)) then none else none else none else none else none else none else bif Nat.ble (n + 1 + 1) 4294967296 then bif Nat.ble (0 + (n + 1) * 1) (List.length cs + 1) then bif Nat.beq ((2 * (n + 1) + 1) % 2) 0 then bif Int.tmod k 3 == 2 then bif decide (0 < (↑(n + 1 + 1) : Int)) then bif Nat.ble (n + 1 + 1) ((2 * (n + 1 + 1) + 1) / 2) then bif Nat.beq ((2 * (n + 1 + 1) + 1) % 2) 0 then bif x != xv at0 (IntKind.wrap IntKind.i64 (Int.tdiv k 3)) then some (XA.ret, [Value.int IntKind.i64 n0, Value.int IntKind.i64 at0, Value.pointer (some { block := 0, off := 0 }), Value.int IntKind.i64 k], [Blk.row Bool.false 1 [Value.slice (some { block := 3, off := 1 }) (n + 1 + 1 - Int.toNat 1) (2 * (n + 1 + 1) + 1 - 2)], Blk.row Bool.false 1 (List.take ((n + 1) * 1) (Value.int IntKind.i64 x :: cs) ++ [Value.int IntKind.i64 (xv at0 k)])], 73) else some (XA.normal, [Value.int IntKind.i64 n0, Value.int IntKind.i64 at0, Value.pointer (some { block := 0, off := 0 }), Value.int IntKind.i64 (IntKind.wrap IntKind.i64 (k + 1))], [Blk.row Bool.false 1 [Value.slice (some { block := 3, off := 1 }) (n + 1 + 1 - Int.toNat 1) (2 * (n + 1 + 1) + 1 - 2)], Blk.row Bool.false 1 (List.take ((n + 1) * 1) (Value.int IntKind.i64 x :: cs) ++ [Value.int IntKind.i64 (xv at0 k)])], 73) else bif x != xv at0 (IntKind.wrap IntKind.i64 (Int.tdiv k 3)) then some (XA.ret, [Value.int IntKind.i64 n0, Value.int IntKind.i64 at0, Value.pointer (some { block := 0, off := 0 }), Value.int IntKind.i64 k], [Blk.row Bool.false 1 [Value.slice (some { block := 3, off := 1 }) (n + 1 + 1 - Int.toNat 1) (2 * (n + 1 + 1) + 1 - 2)], Blk.row Bool.false 1 (List.take ((n + 1) * 1) (Value.int IntKind.i64 x :: cs) ++ [Value.int IntKind.i64 (xv at0 k)])], 73) else some (XA.normal, [Value.int IntKind.i64 n0, Value.int IntKind.i64 at0, Value.pointer (some { block := 0, off := 0 }), Value.int IntKind.i64 (IntKind.wrap IntKind.i64 (k + 1))], [Blk.row Bool.false 1 [Value.slice (some { block := 3, off := 1 }) (n + 1 + 1 - Int.toNat 1) (2 * (n + 1 + 1) + 1 - 2)], Blk.row Bool.false 1 (List.take ((n + 1) * 1) (Value.int IntKind.i64 x :: cs) ++ [Value.int IntKind.i64 (xv at0 k)])], 73) else none else none else some (XA.normal, [Value.int IntKind.i64 n0, Value.int IntKind.i64 at0, Value.pointer (some { block := 0, off := 0 }), Value.int IntKind.i64 (IntKind.wrap IntKind.i64 (k + 1))], [Blk.row Bool.false 1 [Value.slice (some { block := 3, off := 0 }) (n + 1 + 1) (2 * (n + 1 + 1) + 1)], Blk.row Bool.false 1 (List.take ((n + 1) * 1) (Value.int IntKind.i64 x :: cs) ++ [Value.int IntKind.i64 (xv at0 k)])], 73) else bif Nat.beq (0 + (2 * (n + 1) + 1) / 2 * 1) (List.length cs + 1) then bif Int.tmod k 3 == 2 then bif decide (0 < (↑(n + 1 + 1) : Int)) then bif Nat.ble (n + 1 + 1) ((2 * (n + 1 + 1) + 1) / 2) then bif Nat.beq ((2 * (n + 1 + 1) + 1) % 2) 0 then bif x != xv at0 (IntKind.wrap IntKind.i64 (Int.tdiv k 3)) then some (XA.ret, [Value.int IntKind.i64 n0, Value.int IntKind.i64 at0, Value.pointer (some { block := 0, off := 0 }), Value.int IntKind.i64 k], [Blk.row Bool.false 1 [Value.slice (some { block := 3, off := 1 }) (n + 1 + 1 - Int.toNat 1) (2 * (n + 1 + 1) + 1 - 2)], Blk.row Bool.false 1 (List.take ((n + 1) * 1) (Value.int IntKind.i64 x :: cs) ++ [Value.int IntKind.i64 (xv at0 k)])], 73) else some (XA.normal, [Value.int IntKind.i64 n0, Value.int IntKind.i64 at0, Value.pointer (some { block := 0, off := 0 }), Value.int IntKind.i64 (IntKind.wrap IntKind.i64 (k + 1))], [Blk.row Bool.false 1 [Value.slice (some { block := 3, off := 1 }) (n + 1 + 1 - Int.toNat 1) (2 * (n + 1 + 1) + 1 - 2)], Blk.row Bool.false 1 (List.take ((n + 1) * 1) (Value.int IntKind.i64 x :: cs) ++ [Value.int IntKind.i64 (xv at0 k)])], 73) else bif x != xv at0 (IntKind.wrap IntKind.i64 (Int.tdiv k 3)) then some (XA.ret, [Value.int IntKind.i64 n0, Value.int IntKind.i64 at0, Value.pointer (some { block := 0, off := 0 }), Value.int IntKind.i64 k], [Blk.row Bool.false 1 [Value.slice (some { block := 3, off := 1 }) (n + 1 + 1 - Int.toNat 1) (2 * (n + 1 + 1) + 1 - 2)], Blk.row Bool.false 1 (List.take ((n + 1) * 1) (Value.int IntKind.i64 x :: cs) ++ [Value.int IntKind.i64 (xv at0 k)])], 73) else some (XA.normal, [Value.int IntKind.i64 n0, Value.int IntKind.i64 at0, Value.pointer (some { block := 0, off := 0 }), Value.int IntKind.i64 (IntKind.wrap IntKind.i64 (k + 1))], [Blk.row Bool.false 1 [Value.slice (some { block := 3, off := 1 }) (n + 1 + 1 - Int.toNat 1) (2 * (n + 1 + 1) + 1 - 2)], Blk.row Bool.false 1 (List.take ((n + 1) * 1) (Value.int IntKind.i64 x :: cs) ++ [Value.int IntKind.i64 (xv at0 k)])], 73) else none else none else some (XA.normal, [Value.int IntKind.i64 n0, Value.int IntKind.i64 at0, Value.pointer (some { block := 0, off := 0 }), Value.int IntKind.i64 (IntKind.wrap IntKind.i64 (k + 1))], [Blk.row Bool.false 1 [Value.slice (some { block := 3, off := 0 }) (n + 1 + 1) (2 * (n + 1 + 1) + 1)], Blk.row Bool.false 1 (List.take ((n + 1) * 1) (Value.int IntKind.i64 x :: cs) ++ [Value.int IntKind.i64 (xv at0 k)])], 73) else none else none else none else none) := by kernel_rfl
theorem tBx (n0 at0 k : Int) (n : Nat) (x : Int) (cs : List Value) : RH Try.prog Try.f5 0 [0,1,5,6] [0,1] [i n0, i at0, qp, i k] (mkH (q1 (n+1) (2*(n+1)+1) (i x :: cs))) = (bif decide (k < n0) then bif Nat.ble (n + 1 + 1) ((2 * (n + 1) + 1) / 2) then bif Nat.ble (0 + (n + 1) * 1 + 1) (List.length cs + 1) then bif Int.tmod k 3 == 2 then bif decide (0 < (↑(n + 1 + 1) : Int)) then bif Nat.ble (n + 1 + 1) ((2 * (n + 1) + 1) / 2) then bif Nat.beq ((2 * (n + 1) + 1) % 2) 0 then bif x != xv at0 (IntKind.wrap IntKind.i64 (Int.tdiv k 3)) then some (XA.ret, [Value.int IntKind.i64 n0, Value.int IntKind.i64 at0, Value.pointer (some { block := 0, off := 0 }), Value.int IntKind.i64 k], [Blk.row Bool.false 1 [Value.slice (some { block := 1, off := (cond (Nat.beq (Int.toNat 1) ((2 * (n + 1) + 1) / 2)) 0 1) }) (n + 1 + 1 - Int.toNat 1) (2 * (n + 1) + 1 - 2)], Blk.row Bool.false 1 (List.take (0 + (n + 1) * 1) (Value.int IntKind.i64 x :: cs) ++ Value.int IntKind.i64 (xv at0 k) :: List.drop (0 + (n + 1) * 1 + 1) (Value.int IntKind.i64 x :: cs))], 73) else some (XA.normal, [Value.int IntKind.i64 n0, Value.int IntKind.i64 at0, Value.pointer (some { block := 0, off := 0 }), Value.int IntKind.i64 (IntKind.wrap IntKind.i64 (k + 1))], [Blk.row Bool.false 1 [Value.slice (some { block := 1, off := (cond (Nat.beq (Int.toNat 1) ((2 * (n + 1) + 1) / 2)) 0 1) }) (n + 1 + 1 - Int.toNat 1) (2 * (n + 1) + 1 - 2)], Blk.row Bool.false 1 (List.take (0 + (n + 1) * 1) (Value.int IntKind.i64 x :: cs) ++ Value.int IntKind.i64 (xv at0 k) :: List.drop (0 + (n + 1) * 1 + 1) (Value.int IntKind.i64 x :: cs))], 73) else bif x != xv at0 (IntKind.wrap IntKind.i64 (Int.tdiv k 3)) then some (XA.ret, [Value.int IntKind.i64 n0, Value.int IntKind.i64 at0, Value.pointer (some { block := 0, off := 0 }), Value.int IntKind.i64 k], [Blk.row Bool.false 1 [Value.slice (some { block := 1, off := 1 }) (n + 1 + 1 - Int.toNat 1) (2 * (n + 1) + 1 - 2)], Blk.row Bool.false 1 (List.take (0 + (n + 1) * 1) (Value.int IntKind.i64 x :: cs) ++ Value.int IntKind.i64 (xv at0 k) :: List.drop (0 + (n + 1) * 1 + 1) (Value.int IntKind.i64 x :: cs))], 73) else some (XA.normal, [Value.int IntKind.i64 n0, Value.int IntKind.i64 at0, Value.pointer (some { block := 0, off := 0 }), Value.int IntKind.i64 (IntKind.wrap IntKind.i64 (k + 1))], [Blk.row Bool.false 1 [Value.slice (some { block := 1, off := 1 }) (n + 1 + 1 - Int.toNat 1) (2 * (n + 1) + 1 - 2)], Blk.row Bool.false 1 (List.take (0 + (n + 1) * 1) (Value.int IntKind.i64 x :: cs) ++ Value.int IntKind.i64 (xv at0 k) :: List.drop (0 + (n + 1) * 1 + 1) (Value.int IntKind.i64 x :: cs))], 73) else none else none else some (XA.normal, [Value.int IntKind.i64 n0, Value.int IntKind.i64 at0, Value.pointer (some { block := 0, off := 0 }), Value.int IntKind.i64 (IntKind.wrap IntKind.i64 (k + 1))], [Blk.row Bool.false 1 [Value.slice (some { block := 1, off := 0 }) (n + 1 + 1) (2 * (n + 1) + 1)], Blk.row Bool.false 1 (List.take (0 + (n + 1) * 1) (Value.int IntKind.i64 x :: cs) ++ Value.int IntKind.i64 (xv at0 k) :: List.drop (0 + (n + 1) * 1 + 1) (Value.int IntKind.i64 x :: cs))], 73) else none else bif Nat.ble (n + 1 + 1) 4294967296 then bif Nat.ble (0 + (n + 1) * 1) (List.length cs + 1) then bif Nat.beq ((2 * (n + 1) + 1) % 2) 0 then bif Int.tmod k 3 == 2 then bif decide (0 < (↑(n + 1 + 1) : Int)) then bif Nat.ble (n + 1 + 1) ((2 * (n + 1 + 1) + 1) / 2) then bif Nat.beq ((2 * (n + 1 + 1) + 1) % 2) 0 then bif x != xv at0 (IntKind.wrap IntKind.i64 (Int.tdiv k 3)) then some (XA.ret, [Value.int IntKind.i64 n0, Value.int IntKind.i64 at0, Value.pointer (some { block := 0, off := 0 }), Value.int IntKind.i64 k], [Blk.row Bool.false 1 [Value.slice (some { block := 3, off := 1 }) (n + 1 + 1 - Int.toNat 1) (2 * (n + 1 + 1) + 1 - 2)], Blk.row Bool.false 1 (Value.int IntKind.i64 x :: cs)], 73) else some (XA.normal, [Value.int IntKind.i64 n0, Value.int IntKind.i64 at0, Value.pointer (some { block := 0, off := 0 }), Value.int IntKind.i64 (IntKind.wrap IntKind.i64 (k + 1))], [Blk.row Bool.false 1 [Value.slice (some { block := 3, off := 1 }) (n + 1 + 1 - Int.toNat 1) (2 * (n + 1 + 1) + 1 - 2)], Blk.row Bool.false 1 (Value.int IntKind.i64 x :: cs)], 73) else bif x != xv at0 (IntKind.wrap IntKind.i64 (Int.tdiv k 3)) then some (XA.ret, [Value.int IntKind.i64 n0, Value.int IntKind.i64 at0, Value.pointer (some { block := 0, off := 0 }), Value.int IntKind.i64 k], [Blk.row Bool.false 1 [Value.slice (some { block := 3, off := 1 }) (n + 1 + 1 - Int.toNat 1) (2 * (n + 1 + 1) + 1 - 2)], Blk.row Bool.false 1 (Value.int IntKind.i64 x :: cs)], 73) else some (XA.normal, [Value.int IntKind.i64 n0, Value.int IntKind.i64 at0, Value.pointer (some { block := 0, off := 0 }), Value.int IntKind.i64 (IntKind.wrap IntKind.i64 (k + 1))], [Blk.row Bool.false 1 [Value.slice (some { block := 3, off := 1 }) (n + 1 + 1 - Int.toNat 1) (2 * (n + 1 + 1) + 1 - 2)], Blk.row Bool.false 1 (Value.int IntKind.i64 x :: cs)], 73) else none else none else some (XA.normal, [Value.int IntKind.i64 n0, Value.int IntKind.i64 at0, Value.pointer (some { block := 0, off := 0 }), Value.int IntKind.i64 (IntKind.wrap IntKind.i64 (k + 1))], [Blk.row Bool.false 1 [Value.slice (some { block := 3, off := 0 }) (n + 1 + 1) (2 * (n + 1 + 1) + 1)], Blk.row Bool.false 1 (Value.int IntKind.i64 x :: cs)], 73) else bif Nat.beq (0 + (2 * (n + 1) + 1) / 2 * 1) (List.length cs + 1) then bif Int.tmod k 3 == 2 then bif decide (0 < (↑(n + 1 + 1) : Int)) then bif Nat.ble (n + 1 + 1) ((2 * (n + 1 + 1) + 1) / 2) then bif Nat.beq ((2 * (n + 1 + 1) + 1) % 2) 0 then bif x != xv at0 (IntKind.wrap IntKind.i64 (Int.tdiv k 3)) then none else none else bif x != xv at0 (IntKind.wrap IntKind.i64 (Int.tdiv k 3)) then none else none else none else none else none else none else none else none else some (XA.exit 0, [Value.int IntKind.i64 n0, Value.int IntKind.i64 at0, Value.pointer (some { block := 0, off := 0 }), Value.int IntKind.i64 k], [Blk.row Bool.false 1 [Value.slice (some { block := 1, off := 0 }) (n + 1) (2 * (n + 1) + 1)], Blk.row Bool.false 1 (Value.int IntKind.i64 x :: cs)], 73)) := by kernel_rfl
theorem tC (n0 at0 k x : Int) (n : Nat) (cs : List Value) : RH Try.prog Try.f5 1 [0,1,5,9] [0,1] [i n0, i at0, qp, i k] (mkH (q1 (n+1) (2*(n+1)+1) (i x :: cs))) = (bif decide (k < n0) then bif decide (0 < (↑(n + 1) : Int)) then bif Nat.ble (n + 1) ((2 * (n + 1) + 1) / 2) then bif Nat.beq ((2 * (n + 1) + 1) % 2) 0 then bif x != xv at0 k then some (XA.ret, [Value.int IntKind.i64 n0, Value.int IntKind.i64 at0, Value.pointer (some { block := 0, off := 0 }), Value.int IntKind.i64 k], [Blk.row Bool.false 1 [Value.slice (some { block := 1, off := (cond (Nat.beq (Int.toNat 1) ((2 * (n + 1) + 1) / 2)) 0 1) }) (n + 1 - Int.toNat 1) (2 * (n + 1) + 1 - 2)], Blk.row Bool.false 1 (Value.int IntKind.i64 x :: cs)], 73) else some (XA.normal, [Value.int IntKind.i64 n0, Value.int IntKind.i64 at0, Value.pointer (some { block := 0, off := 0 }), Value.int IntKind.i64 (IntKind.wrap IntKind.i64 (k + 1))], [Blk.row Bool.false 1 [Value.slice (some { block := 1, off := (cond (Nat.beq (Int.toNat 1) ((2 * (n + 1) + 1) / 2)) 0 1) }) (n + 1 - Int.toNat 1) (2 * (n + 1) + 1 - 2)], Blk.row Bool.false 1 (Value.int IntKind.i64 x :: cs)], 73) else bif x != xv at0 k then some (XA.ret, [Value.int IntKind.i64 n0, Value.int IntKind.i64 at0, Value.pointer (some { block := 0, off := 0 }), Value.int IntKind.i64 k], [Blk.row Bool.false 1 [Value.slice (some { block := 1, off := 1 }) (n + 1 - Int.toNat 1) (2 * (n + 1) + 1 - 2)], Blk.row Bool.false 1 (Value.int IntKind.i64 x :: cs)], 73) else some (XA.normal, [Value.int IntKind.i64 n0, Value.int IntKind.i64 at0, Value.pointer (some { block := 0, off := 0 }), Value.int IntKind.i64 (IntKind.wrap IntKind.i64 (k + 1))], [Blk.row Bool.false 1 [Value.slice (some { block := 1, off := 1 }) (n + 1 - Int.toNat 1) (2 * (n + 1) + 1 - 2)], Blk.row Bool.false 1 (Value.int IntKind.i64 x :: cs)], 73) else none else none else some (XA.exit 2, [Value.int IntKind.i64 n0, Value.int IntKind.i64 at0, Value.pointer (some { block := 0, off := 0 }), Value.int IntKind.i64 k], [Blk.row Bool.false 1 [Value.slice (some { block := 1, off := 0 }) (n + 1) (2 * (n + 1) + 1)], Blk.row Bool.false 1 (Value.int IntKind.i64 x :: cs)], 73)) := by kernel_rfl
theorem tD (n0 at0 k : Int) (cs : List Value) : RH Try.prog Try.f5 1 [0,1,5,9] [0,1] [i n0, i at0, qp, i k] (mkH (q1 0 1 cs)) = (bif decide (k < n0) then some (XA.ret, [Value.int IntKind.i64 n0, Value.int IntKind.i64 at0, Value.pointer (some { block := 0, off := 0 }), Value.int IntKind.i64 k], [Blk.row Bool.false 1 [Value.slice (some { block := 1, off := 0 }) 0 1], Blk.row Bool.false 1 cs], 73) else some (XA.exit 2, [Value.int IntKind.i64 n0, Value.int IntKind.i64 at0, Value.pointer (some { block := 0, off := 0 }), Value.int IntKind.i64 k], [Blk.row Bool.false 1 [Value.slice (some { block := 1, off := 0 }) 0 1], Blk.row Bool.false 1 cs], 73)) := by kernel_rfl
theorem tE (n0 at0 k : Int) : RH Try.prog Try.f5 1 [0,1,5,9] [0] [i n0, i at0, qp, i k] (mkH q0) = (bif decide (k < n0) then some (XA.ret, [Value.int IntKind.i64 n0, Value.int IntKind.i64 at0, Value.pointer (some { block := 0, off := 0 }), Value.int IntKind.i64 k], [Blk.row Bool.false 1 [Value.slice none 0 0]], 73) else some (XA.exit 2, [Value.int IntKind.i64 n0, Value.int IntKind.i64 at0, Value.pointer (some { block := 0, off := 0 }), Value.int IntKind.i64 k], [Blk.row Bool.false 1 [Value.slice none 0 0]], 73)) := by kernel_rfl
theorem i64s (x : Int) (h0 : 0 ≤ x) (h1 : x ≤ 9223372036854775807) : IntKind.i64.wrap x = x := by rw [IntKind.wrap_i64]; omega
theorem tm3 (k : Nat) : Int.tmod (k : Int) 3 = ((k % 3 : Nat) : Int) := by
  rw [Int.tmod_eq_emod_of_nonneg (by omega)]; omega
theorem td3 (k : Nat) : Int.tdiv (k : Int) 3 = ((k / 3 : Nat) : Int) := by
  rw [Int.tdiv_eq_ediv_of_nonneg (by omega)]; omega
def vals (a : Int) (s : Nat) : Nat → List Value
  | 0 => []
  | n + 1 => i (xv a s) :: vals a (s + 1) n
theorem vals_len (a : Int) : ∀ (n s : Nat), (vals a s n).length = n := by
  intro n
  induction n with
  | zero => intro s; rfl
  | succ n ih => intro s; simp [vals, ih]
theorem vals_snoc (a : Int) : ∀ (n s : Nat), vals a s (n + 1) = vals a s n ++ [i (xv a ((s + n : Nat) : Int))] := by
  intro n
  induction n with
  | zero => intro s; rfl
  | succ n ih =>
    intro s
    rw [vals, ih (s + 1)]
    simp only [vals, List.cons_append]
    congr 5
    omega
theorem vals_plain (a : Int) : ∀ (n s : Nat), ∀ v ∈ vals a s n, plain1 v = true := by
  intro n
  induction n with
  | zero => intro s v h; cases h
  | succ n ih =>
    intro s v h
    rcases List.mem_cons.1 h with rfl | h
    · rfl
    · exact ih _ v h

/-- A queue's heap, whatever it went by. -/
theorem qcov {ts : List Nat} {a b c : Int} {L C m d N : Nat} {cs1 : List Value} {σ1 : St} (hn : σ1.n = N) (hd : σ1.ds = []) (hp : picks ts σ1.T = some [i a, i b, qp, i c])
    (hb : picksH [0, m] σ1.h = some [.row false 1 [.slice (some ⟨m, d, none⟩) L C], .row false 1 cs1]) (hm : 0 ≠ m) (hdl : d ≤ cs1.length) (hpl : ∀ v ∈ cs1.drop d, plain1 v = true) :
    Covers gl0 h0 (stT ts [i a, i b, qp, i c] N (mkH (q1 L C (cs1.drop d)))) σ1 := by
  refine covers_H (dl := [0, d]) hn hd hp hb rfl ?_ ?_ (by simp [hm]) ?_
  · exact .cons (.plain _ rfl) (.cons (.plain _ rfl) (.cons (.ptr 0 0 0 (Nat.zero_lt_succ _) rfl) (.cons (.plain _ rfl) .nil)))
  · intro j b0 b1 h0 h1
    match j with
    | 0 =>
      cases h0; cases h1
      exact ⟨rfl, rfl, Nat.zero_le _, .cons (.slc 1 0 d L C (Nat.lt_succ_self 1) (Nat.zero_add d).symm) .nil⟩
    | 1 =>
      cases h0; cases h1
      exact ⟨rfl, rfl, hdl, RenL.plain hpl⟩
    | j + 2 => cases h0
  · intro b hb
    rcases List.mem_cons.1 hb with rfl | hb
    · rfl
    · rcases List.mem_cons.1 hb with rfl | hb
      · rfl
      · cases hb
theorem q0cov {ts : List Nat} {a b c : Int} {m N : Nat} {σ1 : St} (hn : σ1.n = N) (hd : σ1.ds = []) (hp : picks ts σ1.T = some [i a, i b, .pointer (some ⟨m, 0, none⟩), i c])
    (hb : picksH [m] σ1.h = some q0) : Covers gl0 h0 (stT ts [i a, i b, qp, i c] N (mkH q0)) σ1 := by
  refine covers_H (ids := [m]) (dl := [0]) hn hd hp hb rfl ?_ ?_ (by simp) ?_
  · exact .cons (.plain _ rfl) (.cons (.plain _ rfl) (.cons (.ptr 0 0 0 (Nat.zero_lt_succ _) rfl) (.cons (.plain _ rfl) .nil)))
  · intro j b0 b1 h0 h1
    match j with
    | 0 =>
      cases h0; cases h1
      exact ⟨rfl, rfl, Nat.zero_le _, RenL.plain (fun v hv => by rcases List.mem_cons.1 hv with rfl | h; rfl; cases h)⟩
    | j + 1 => cases h0
  · intro b hb
    rcases List.mem_cons.1 hb with rfl | hb
    · rfl
    · cases hb

def H1 (a : Int) : Nat → List Blk
  | 0 => q0
  | k + 1 => q1 (k + 1 - (k + 1) / 3) (2 * (k + 1 - (k + 1) / 3) + 1) (vals a ((k + 1) / 3) (k + 1 - (k + 1) / 3))
def inv1 (n : Nat) (a : Int) (k : Nat) : St := stT [0, 1, 5, 6] [i n, i a, qp, i k] 73 (mkH (H1 a k))
theorem regOK : RegOK Try.prog gl0 (regF Try.prog gl0) := regF_ok (by kernel_rfl)
noncomputable abbrev CB (k : Nat) (σ : St) := codeB Try.prog gl0 (regF Try.prog gl0) (callA Try.prog gl0 (regF Try.prog gl0) 20 false) noLO (loopN Try.f5 k) σ
theorem RH_some {k : Nat} {ts ids : List Nat} {vs us : List Value} {h : AH} {y : XA} {bs : List Blk} {n : Nat} (hr : RH Try.prog Try.f5 k ts ids vs h = some (y, us, bs, n)) :
    ∃ σ1, CB k (stT ts vs Try.f5.ntmps h) = some (y, σ1) ∧ picks ts σ1.T = some us ∧ picksH ids σ1.h = some bs ∧ σ1.n = n ∧ σ1.ds = [] := finH_some (inK_ok 20) (toLK_ok noLO) hr

theorem step1 (n : Nat) (hn3 : n ≤ 3000) (a : Int) (k : Nat) (hk : k ≤ n) : ∃ y σ1, CB 0 (inv1 n a k) = some (y, σ1) ∧
    ((y = .normal ∧ k + 1 ≤ n ∧ Covers gl0 h0 (inv1 n a (k + 1)) σ1) ∨ (y = .exit 0 ∧ k = n ∧ Covers gl0 h0 (inv1 n a n) σ1)) := by
  by_cases hlt : k < n
  · match k, hk, hlt with
    | 0, hk, hlt =>
      have h := tA n a
      rw [decide_eq_true (by omega : (0 : Int) < n)] at h
      obtain ⟨σ1, g1, g2, g3, g4, g5⟩ := RH_some h
      refine ⟨_, σ1, g1, .inl ⟨rfl, hlt, ?_⟩⟩
      have e : IntKind.i64.wrap (0 + 1) = ((0 + 1 : Nat) : Int) := by decide
      rw [e] at g2
      exact qcov (d := 0) g4 g5 g2 g3 (by decide) (Nat.zero_le _) (vals_plain a 1 0)
    | k + 1, hk, hlt =>
      obtain ⟨m, hm⟩ : ∃ m, k + 1 - (k + 1) / 3 = m + 1 := ⟨k - (k + 1) / 3, by omega⟩
      have h := tB n a ((k + 1 : Nat) : Int) m (xv a (((k + 1) / 3 : Nat) : Int)) (vals a ((k + 1) / 3 + 1) m)
      rw [decide_eq_true (by omega : ((k + 1 : Nat) : Int) < n), vals_len] at h
      have c1 : Nat.ble (m + 1 + 1) ((2 * (m + 1) + 1) / 2) = false := by rw [← Bool.not_eq_true]; intro h; have := Nat.le_of_ble_eq_true h; omega
      have c2 : Nat.ble (m + 1 + 1) 4294967296 = true := Nat.ble_eq_true_of_le (by omega)
      have c3 : Nat.ble (0 + (m + 1) * 1) (m + 1) = true := Nat.ble_eq_true_of_le (by omega)
      have c4 : Nat.beq ((2 * (m + 1) + 1) % 2) 0 = false := by rw [show (2 * (m + 1) + 1) % 2 = 1 from by omega]; rfl
      have c5 : Nat.beq (0 + (2 * (m + 1) + 1) / 2 * 1) (m + 1) = true := by rw [show 0 + (2 * (m + 1) + 1) / 2 * 1 = m + 1 from by omega]; exact Nat.beq_refl _
      have c6 : Nat.ble (m + 1 + 1) ((2 * (m + 1 + 1) + 1) / 2) = true := Nat.ble_eq_true_of_le (by omega)
      have c7 : Nat.beq ((2 * (m + 1 + 1) + 1) % 2) 0 = false := by rw [show (2 * (m + 1 + 1) + 1) % 2 = 1 from by omega]; rfl
      have c8 : decide ((0 : Int) < ((m + 1 + 1 : Nat) : Int)) = true := decide_eq_true (by omega)
      have c9 : IntKind.wrap IntKind.i64 (((k + 1 : Nat) : Int) + 1) = ((k + 1 + 1 : Nat) : Int) := by rw [i64s _ (by omega) (by omega)]; omega
      have c10 : IntKind.wrap IntKind.i64 (Int.tdiv ((k + 1 : Nat) : Int) 3) = (((k + 1) / 3 : Nat) : Int) := by rw [td3, i64s _ (by omega) (by omega)]
      have c11 : (xv a (((k + 1) / 3 : Nat) : Int) != xv a (((k + 1) / 3 : Nat) : Int)) = false := bne_self_eq_false _
      have e0 : mkH (H1 a (k + 1)) = mkH (q1 (m + 1) (2 * (m + 1) + 1) (i (xv a (((k + 1) / 3 : Nat) : Int)) :: vals a ((k + 1) / 3 + 1) m)) := by rw [H1, hm]; rfl
      simp only [c1, c2, c3, c4, c5, c6, c7, c8, c9, c10, cond_true, cond_false] at h
      have e1 : List.take ((m + 1) * 1) (i (xv a (((k + 1) / 3 : Nat) : Int)) :: vals a ((k + 1) / 3 + 1) m) = vals a ((k + 1) / 3) (m + 1) := by
        rw [List.take_of_length_le (by simp [vals_len])]; rfl
      rw [show (m + 1) * 1 = m + 1 from by omega] at e1
      by_cases h3 : (k + 1) % 3 = 2
      · have c12 : (Int.tmod ((k + 1 : Nat) : Int) 3 == 2) = true := by rw [tm3, h3]; rfl
        rw [c12, c11] at h
        simp only [cond_true, cond_false] at h
        obtain ⟨σ1, g1, g2, g3, g4, g5⟩ := RH_some h
        refine ⟨_, σ1, ?_, .inl ⟨rfl, hlt, ?_⟩⟩
        · unfold inv1; rw [e0]; exact g1
        · have hs : List.drop 1 (List.take ((m + 1) * 1) (i (xv a (((k + 1) / 3 : Nat) : Int)) :: vals a ((k + 1) / 3 + 1) m) ++ [i (xv a ((k + 1 : Nat) : Int))]) = vals a ((k + 1) / 3 + 1) (m + 1) := by
            rw [show (m + 1) * 1 = m + 1 from by omega, e1, vals_snoc a m ((k + 1) / 3 + 1), show (k + 1) / 3 + 1 + m = k + 1 from by omega]; rfl
          have hcv := qcov (d := 1) g4 g5 g2 g3 (by decide) (by simp) (by erw [hs]; exact vals_plain a _ _)
          erw [hs] at hcv
          have e2 : H1 a (k + 1 + 1) = q1 (m + 1 + 1 - Int.toNat 1) (2 * (m + 1 + 1) + 1 - 2) (vals a ((k + 1) / 3 + 1) (m + 1)) := by
            rw [H1, show (k + 1 + 1) / 3 = (k + 1) / 3 + 1 from by omega, show k + 1 + 1 - ((k + 1) / 3 + 1) = m + 1 from by omega]; rfl
          unfold inv1; rw [e2]; exact hcv
      · have c12 : (Int.tmod ((k + 1 : Nat) : Int) 3 == 2) = false := by rw [tm3]; simp; omega
        rw [c12] at h
        simp only [cond_true, cond_false] at h
        obtain ⟨σ1, g1, g2, g3, g4, g5⟩ := RH_some h
        refine ⟨_, σ1, ?_, .inl ⟨rfl, hlt, ?_⟩⟩
        · unfold inv1; rw [e0]; exact g1
        · have hs : List.take ((m + 1) * 1) (i (xv a (((k + 1) / 3 : Nat) : Int)) :: vals a ((k + 1) / 3 + 1) m) ++ [i (xv a ((k + 1 : Nat) : Int))] = vals a ((k + 1) / 3) (m + 1 + 1) := by
            rw [show (m + 1) * 1 = m + 1 from by omega, e1, vals_snoc a (m + 1) ((k + 1) / 3), show (k + 1) / 3 + (m + 1) = k + 1 from by omega]
          have hcv := qcov (d := 0) g4 g5 g2 g3 (by decide) (Nat.zero_le _) (by erw [List.drop_zero, hs]; exact vals_plain a _ _)
          erw [List.drop_zero, hs] at hcv
          have e2 : H1 a (k + 1 + 1) = q1 (m + 1 + 1) (2 * (m + 1 + 1) + 1) (vals a ((k + 1) / 3) (m + 1 + 1)) := by
            rw [H1, show (k + 1 + 1) / 3 = (k + 1) / 3 from by omega, show k + 1 + 1 - (k + 1) / 3 = m + 1 + 1 from by omega]
          unfold inv1; rw [e2]; exact hcv
  · have hkn : k = n := by omega
    subst hkn
    match k with
    | 0 =>
      have h := tAx 0 a
      obtain ⟨σ1, g1, g2, g3, g4, g5⟩ := RH_some h
      exact ⟨_, σ1, g1, .inr ⟨rfl, rfl, q0cov g4 g5 g2 g3⟩⟩
    | k + 1 =>
      obtain ⟨m, hm⟩ : ∃ m, k + 1 - (k + 1) / 3 = m + 1 := ⟨k - (k + 1) / 3, by omega⟩
      have h := tBx ((k + 1 : Nat) : Int) a ((k + 1 : Nat) : Int) m (xv a (((k + 1) / 3 : Nat) : Int)) (vals a ((k + 1) / 3 + 1) m)
      rw [decide_eq_false (Int.lt_irrefl _)] at h
      obtain ⟨σ1, g1, g2, g3, g4, g5⟩ := RH_some h
      have e0 : H1 a (k + 1) = q1 (m + 1) (2 * (m + 1) + 1) (i (xv a (((k + 1) / 3 : Nat) : Int)) :: vals a ((k + 1) / 3 + 1) m) := by rw [H1, hm]; rfl
      have hcv := qcov (d := 0) g4 g5 g2 g3 (by decide) (Nat.zero_le _) (vals_plain a (m + 1) ((k + 1) / 3))
      refine ⟨_, σ1, ?_, .inr ⟨rfl, rfl, ?_⟩⟩
      · unfold inv1; rw [e0]; exact g1
      · unfold inv1; rw [e0]; exact hcv

theorem loop1 (n : Nat) (hn3 : n ≤ 3000) (a : Int) : LoopTri Try.prog gl0 h0 (loopN Try.f5 0) (inv1 n a 0) (.exit 0) (inv1 n a n) := by
  refine loop_rule (P := Try.prog) (X := {k : Nat // k ≤ n}) regOK (callA_ok regOK 20).1 noLO_ok (fun k => inv1 n a k.1) (fun k => n - k.1) (fun _ => (.exit 0, inv1 n a n)) (fun k => ?_) ⟨0, Nat.zero_le _⟩
  obtain ⟨y, σ1, h1, h2⟩ := step1 n hn3 a k.1 k.2
  refine ⟨y, σ1, h1, ?_⟩
  rcases h2 with ⟨rfl, h3, h4⟩ | ⟨rfl, h3, h4⟩
  · exact .inl ⟨rfl, ⟨k.1 + 1, h3⟩, by show n - (k.1 + 1) < n - k.1; omega, rfl, h4⟩
  · exact .inr ⟨(by intro h; cases h), rfl, h4⟩

/-- The second loop's states. -/
def H2 (n : Nat) (a : Int) (k : Nat) : List Blk := q1 (n - k) (2 * (n - k) + 1) (vals a k (n - k))
def inv2 (n : Nat) (a : Int) (k : Nat) : St := stT [0, 1, 5, 9] [i n, i a, qp, i k] 73 (mkH (H2 n a k))
theorem step2 (n : Nat) (hn3 : n ≤ 3000) (a : Int) (k : Nat) (hk : k ≤ n) : ∃ y σ1, CB 1 (inv2 n a k) = some (y, σ1) ∧
    ((y = .normal ∧ k + 1 ≤ n ∧ Covers gl0 h0 (inv2 n a (k + 1)) σ1) ∨ (y = .exit 2 ∧ k = n ∧ Covers gl0 h0 (inv2 n a n) σ1)) := by
  by_cases hlt : k < n
  · obtain ⟨m, hm⟩ : ∃ m, n - k = m + 1 := ⟨n - k - 1, by omega⟩
    have h := tC n a k (xv a k) m (vals a (k + 1) m)
    have c1 : decide ((k : Int) < n) = true := decide_eq_true (by omega)
    have c2 : decide ((0 : Int) < ((m + 1 : Nat) : Int)) = true := decide_eq_true (by omega)
    have c3 : Nat.ble (m + 1) ((2 * (m + 1) + 1) / 2) = true := Nat.ble_eq_true_of_le (by omega)
    have c4 : Nat.beq ((2 * (m + 1) + 1) % 2) 0 = false := by rw [show (2 * (m + 1) + 1) % 2 = 1 from by omega]; rfl
    have c5 : (xv a (k : Int) != xv a (k : Int)) = false := bne_self_eq_false _
    have c6 : IntKind.wrap IntKind.i64 ((k : Int) + 1) = ((k + 1 : Nat) : Int) := by rw [i64s _ (by omega) (by omega)]; omega
    simp only [c1, c2, c3, c4, c5, c6, cond_true, cond_false] at h
    obtain ⟨σ1, g1, g2, g3, g4, g5⟩ := RH_some h
    have hcv := qcov (d := 1) g4 g5 g2 g3 (by decide) (by simp) (vals_plain a m (k + 1))
    have e0 : H2 n a k = q1 (m + 1) (2 * (m + 1) + 1) (i (xv a k) :: vals a (k + 1) m) := by rw [H2, hm]; rfl
    refine ⟨_, σ1, ?_, .inl ⟨rfl, hlt, ?_⟩⟩
    · unfold inv2; rw [e0]; exact g1
    · have e1 : H2 n a (k + 1) = q1 (m + 1 - Int.toNat 1) (2 * (m + 1) + 1 - 2) (vals a (k + 1) m) := by rw [H2, show n - (k + 1) = m from by omega]; rfl
      unfold inv2; rw [e1]; exact hcv
  · have hkn : k = n := by omega
    subst hkn
    have h := tD k a k (vals a k 0)
    rw [decide_eq_false (Int.lt_irrefl _)] at h
    obtain ⟨σ1, g1, g2, g3, g4, g5⟩ := RH_some h
    have hcv := qcov (d := 0) g4 g5 g2 g3 (by decide) (Nat.zero_le _) (vals_plain a 0 k)
    have e0 : H2 k a k = q1 0 1 (vals a k 0) := by rw [H2, Nat.sub_self]
    refine ⟨_, σ1, ?_, .inr ⟨rfl, rfl, ?_⟩⟩
    · unfold inv2; rw [e0]; exact g1
    · unfold inv2; rw [e0]; exact hcv
theorem loop2 (n : Nat) (hn3 : n ≤ 3000) (a : Int) (k : Nat) (hk : k ≤ n) : LoopTri Try.prog gl0 h0 (loopN Try.f5 1) (inv2 n a k) (.exit 2) (inv2 n a n) := by
  refine loop_rule (P := Try.prog) (X := {k : Nat // k ≤ n}) regOK (callA_ok regOK 20).1 noLO_ok (fun k => inv2 n a k.1) (fun k => n - k.1) (fun _ => (.exit 2, inv2 n a n)) (fun k => ?_) ⟨k, hk⟩
  obtain ⟨y, σ1, h1, h2⟩ := step2 n hn3 a k.1 k.2
  refine ⟨y, σ1, h1, ?_⟩
  rcases h2 with ⟨rfl, h3, h4⟩ | ⟨rfl, h3, h4⟩
  · exact .inl ⟨rfl, ⟨k.1 + 1, h3⟩, by show n - (k.1 + 1) < n - k.1; omega, rfl, h4⟩
  · exact .inr ⟨(by intro h; cases h), rfl, h4⟩
/-- What is known of the two loops. -/
noncomputable def fl1 (n : Nat) (a : Int) : List Value → AH → Nat → Option (Bool × XA × St)
  | [.int .i64 n', .int .i64 a', .pointer (some ⟨b, 0, none⟩), .int .i64 k'], h, s => match picksH [b] h with
    | some bs => some (tst (n' = (n : Int) ∧ a' = a ∧ k' = 0 ∧ bs = q0 ∧ s = 73), .exit 0, inv1 n a n)
    | none => none
  | _, _, _ => none
noncomputable def fl2 (n : Nat) (a : Int) : List Value → AH → Nat → Option (Bool × XA × St)
  | [.int .i64 n', .int .i64 a', .pointer (some ⟨0, 0, none⟩), .int .i64 k'], h, s => match picksH [0, 1] h with
    | some bs => some (tst (n' = (n : Int) ∧ a' = a ∧ k' = ((n / 3 : Nat) : Int) ∧ bs = H2 n a (n / 3) ∧ s = 73), .exit 2, inv2 n a n)
    | none => none
  | _, _, _ => none
noncomputable def fl0 (a : Int) : List Value → AH → Nat → Option (Bool × XA × St)
  | [.int .i64 n', .int .i64 a', .pointer (some ⟨0, 0, none⟩), .int .i64 k'], h, s => match picksH [0] h with
    | some bs => some (tst (n' = 0 ∧ a' = a ∧ k' = 0 ∧ bs = q0 ∧ s = 73), .exit 2, stT [0, 1, 5, 9] [.int .i64 0, .int .i64 a, qp, .int .i64 0] 73 (mkH q0))
    | none => none
  | _, _, _ => none
noncomputable abbrev lk5 {R : Type} (n : Nat) (a : Int) : LoopK R := lkQ 7 [0, 1, 5, 6] (fl1 n a) (lkQ 15 [0, 1, 5, 9] (fl2 n a) noLK)
noncomputable abbrev lk50 {R : Type} (a : Int) : LoopK R := lkQ 7 [0, 1, 5, 6] (fl1 0 a) (lkQ 15 [0, 1, 5, 9] (fl0 a) noLK)
theorem isReg7 : (isReg 7 (loopN Try.f5 0), isReg 15 (loopN Try.f5 0), isReg 7 (loopN Try.f5 1), isReg 15 (loopN Try.f5 1)) = (true, false, false, true) := by kernel_rfl
theorem loops5 : loopsOf (bodyOf Try.f5) = [loopN Try.f5 0, loopN Try.f5 1] := by kernel_rfl
theorem is7 {c : Code} (hc : c ∈ loopsOf (bodyOf Try.f5)) (h : isReg 7 c = true) : c = loopN Try.f5 0 := by
  rw [loops5] at hc
  rcases List.mem_cons.1 hc with rfl | hc
  · rfl
  · rcases List.mem_cons.1 hc with rfl | hc
    · have := congrArg (fun p => p.2.2.1) isReg7
      rw [h] at this; cases this
    · cases hc
theorem is15 {c : Code} (hc : c ∈ loopsOf (bodyOf Try.f5)) (h : isReg 15 c = true) : c = loopN Try.f5 1 := by
  rw [loops5] at hc
  rcases List.mem_cons.1 hc with rfl | hc
  · have := congrArg (fun p => p.2.1) isReg7
    rw [h] at this; cases this
  · rcases List.mem_cons.1 hc with rfl | hc
    · rfl
    · cases hc

theorem fl1_ok (n : Nat) (hn3 : n ≤ 3000) (a : Int) (σ : St) (vs : List Value) (x : XA) (σ' : St) (hd : σ.ds = []) (hp : picks [0, 1, 5, 6] σ.T = some vs) (h : fl1 n a vs σ.h σ.n = some (true, x, σ')) :
    LoopTri Try.prog gl0 h0 (loopN Try.f5 0) σ x σ' := by
  unfold fl1 at h
  split at h
  · rename_i n' a' b k' _ _
    split at h
    · rename_i bs hb
      simp only [Option.some.injEq, Prod.mk.injEq] at h
      obtain ⟨ht, rfl, rfl⟩ := h
      obtain ⟨rfl, rfl, rfl, rfl, hs⟩ := of_tst ht
      exact (loop1 n hn3 _).enter (q0cov hs hd hp hb)
    · cases h
  · cases h
theorem fl2_ok (n : Nat) (hn3 : n ≤ 3000) (a : Int) (σ : St) (vs : List Value) (x : XA) (σ' : St) (hd : σ.ds = []) (hp : picks [0, 1, 5, 9] σ.T = some vs) (h : fl2 n a vs σ.h σ.n = some (true, x, σ')) :
    LoopTri Try.prog gl0 h0 (loopN Try.f5 1) σ x σ' := by
  unfold fl2 at h
  split at h
  · rename_i n' a' k' _ _
    split at h
    · rename_i bs hb
      simp only [Option.some.injEq, Prod.mk.injEq] at h
      obtain ⟨ht, rfl, rfl⟩ := h
      obtain ⟨rfl, rfl, rfl, rfl, hs⟩ := of_tst ht
      exact (loop2 n hn3 _ (n / 3) (by omega)).enter (qcov (d := 0) hs hd hp hb (by decide) (Nat.zero_le _) (vals_plain _ _ _))
    · cases h
  · cases h
theorem fl0_ok (a : Int) (σ : St) (vs : List Value) (x : XA) (σ' : St) (hd : σ.ds = []) (hp : picks [0, 1, 5, 9] σ.T = some vs) (h : fl0 a vs σ.h σ.n = some (true, x, σ')) :
    LoopTri Try.prog gl0 h0 (loopN Try.f5 1) σ x σ' := by
  unfold fl0 at h
  split at h
  · rename_i n' a' k' _ _
    split at h
    · rename_i bs hb
      simp only [Option.some.injEq, Prod.mk.injEq] at h
      obtain ⟨ht, rfl, rfl⟩ := h
      obtain ⟨h1, ha, h2, rfl, hs⟩ := of_tst ht
      rw [h1, ha, h2] at hp
      refine LoopTri.enter ?_ (q0cov hs hd hp hb)
      refine loop_rule (P := Try.prog) (X := Unit) regOK (callA_ok regOK 20).1 noLO_ok (fun _ => stT [0, 1, 5, 9] [i 0, i a, qp, i 0] 73 (mkH q0)) (fun _ => 0) (fun _ => (.exit 2, stT [0, 1, 5, 9] [i 0, i a, qp, i 0] 73 (mkH q0))) (fun _ => ?_) ()
      have h := tE 0 a 0
      obtain ⟨σ1, g1, g2, g3, g4, g5⟩ := RH_some h
      exact ⟨_, σ1, g1, .inr ⟨(by intro h; cases h), rfl, q0cov g4 g5 g2 g3⟩⟩
    · cases h
  · cases h

theorem out_run (n a : Int) (h : n < 0 ∨ 3000 < n) : runLI Try.prog gl0 (regF Try.prog gl0) 20 noLK Try.f5 [i n, i a] h0 = some (.bool true) := by
  have e : runLI Try.prog gl0 (regF Try.prog gl0) 20 noLK Try.f5 [i n, i a] h0 = (bif decide (n < 0) then some (.bool true) else bif decide (n > 3000) then some (.bool true) else none) := by kernel_rfl
  rw [e]
  rcases h with h | h
  · rw [decide_eq_true h]; rfl
  · rw [decide_eq_true (show n > 3000 from h)]; cases decide (n < 0) <;> rfl
theorem in_run (n : Nat) (a : Int) (hn : n + 1 ≤ 3000) : runLI Try.prog gl0 (regF Try.prog gl0) 20 (lk5 (n + 1) a) Try.f5 [i ((n + 1 : Nat) : Int), i a] h0 = some (.bool true) := by
  have e : runLI Try.prog gl0 (regF Try.prog gl0) 20 (lk5 (n + 1) a) Try.f5 [i ((n + 1 : Nat) : Int), i a] h0 =
    (bif decide ((↑(n + 1) : Int) > 3000) then some (Value.bool Bool.true) else bif tst ((↑(n + 1) : Int) = (↑(n + 1) : Int) ∧ a = a ∧ (0 : Int) = 0 ∧ [Blk.row Bool.false 1 [Value.slice none 0 0]] = q0 ∧ 73 = 73) then bif tst ((↑(n + 1) : Int) = (↑(n + 1) : Int) ∧ a = a ∧ IntKind.wrap IntKind.i64 (Int.tdiv (↑(n + 1) : Int) 3) = (↑((n + 1) / 3) : Int) ∧ [Blk.row Bool.false 1 [Value.slice (some { block := 1, off := 0 }) (n + 1 - (n + 1) / 3) (2 * (n + 1 - (n + 1) / 3) + 1)], Blk.row Bool.false 1 (vals a ((n + 1) / 3) (n + 1 - (n + 1) / 3))] = H2 (n + 1) a ((n + 1) / 3) ∧ 73 = 73) then bif (↑(n + 1 - (n + 1)) : Int) == 0 then some (Value.bool Bool.true) else some (Value.bool Bool.false) else none else none) := by kernel_rfl
  rw [e, decide_eq_false (by omega), tst_of ⟨rfl, rfl, rfl, rfl, rfl⟩, tst_of ⟨rfl, rfl, (by rw [td3, i64s _ (by omega) (by omega)]), rfl, rfl⟩, Nat.sub_self]; rfl
theorem zero_run (a : Int) : runLI Try.prog gl0 (regF Try.prog gl0) 20 (lk50 a) Try.f5 [i 0, i a] h0 = some (.bool true) := by
  have e : runLI Try.prog gl0 (regF Try.prog gl0) 20 (lk50 a) Try.f5 [i 0, i a] h0 =
    (bif tst ((0 : Int) = ((0 : Nat) : Int) ∧ a = a ∧ (0 : Int) = 0 ∧ [Blk.row Bool.false 1 [Value.slice none 0 0]] = q0 ∧ 73 = 73) then bif tst (((0 : Nat) : Int) = 0 ∧ a = a ∧ IntKind.wrap IntKind.i64 (Int.tdiv ((0 : Nat) : Int) 3) = 0 ∧ [Blk.row Bool.false 1 [Value.slice none 0 0]] = q0 ∧ 73 = 73) then some (Value.bool Bool.true) else none else none) := by kernel_rfl
  rw [e, tst_of ⟨rfl, rfl, rfl, rfl, rfl⟩, tst_of ⟨rfl, rfl, (by decide), rfl, rfl⟩]; rfl

theorem blocks_walk (n a : Int) (w : World) : Calls Try.prog 5 #[.int .i64 n, .int .i64 a] w fun e w' => e = .returned (.bool true) ∧ Below w.heap.size w w' := by
  by_cases h : n < 0 ∨ 3000 < n
  · exact plain_callsLI (n := 20) regOK noLK_ok Try.func5 rfl (by kernel_rfl) noLO_ok (out_run n a h) rfl rfl w
  · obtain ⟨m, rfl⟩ : ∃ m : Nat, n = m := ⟨n.toNat, by omega⟩
    match m with
    | 0 =>
      refine plain_callsLI (n := 20) regOK (lkQ_ok (lkQ_ok noLK_ok)) Try.func5 rfl (by kernel_rfl) (loQ_ok (fun c hc hr σ vs x σ' hd hp hf => ?_) (loQ_ok (fun c hc hr σ vs x σ' hd hp hf => ?_) noLO_ok)) (zero_run a) rfl rfl w
      · rw [is7 hc hr]; exact fl1_ok 0 (by omega) a σ vs x σ' hd hp hf
      · rw [is15 hc hr]; exact fl0_ok a σ vs x σ' hd hp hf
    | m + 1 =>
      refine plain_callsLI (n := 20) regOK (lkQ_ok (lkQ_ok noLK_ok)) Try.func5 rfl (by kernel_rfl) (loQ_ok (fun c hc hr σ vs x σ' hd hp hf => ?_) (loQ_ok (fun c hc hr σ vs x σ' hd hp hf => ?_) noLO_ok)) (in_run m a (by omega)) rfl rfl w
      · rw [is7 hc hr]; exact fl1_ok (m + 1) (by omega) a σ vs x σ' hd hp hf
      · rw [is15 hc hr]; exact fl2_ok (m + 1) (by omega) a σ vs x σ' hd hp hf
end Go.Proofs.Ytkjiomdgdnjgiaa.AI
