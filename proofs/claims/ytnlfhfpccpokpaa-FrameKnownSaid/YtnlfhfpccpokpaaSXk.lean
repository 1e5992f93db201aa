/- A stack of frames, round by round: what is told. -/
import Derived.Test.YtnlfhfpccpokpaaProg
import Derived.Test.YtnlfhfpccpokpaaAIld
import Derived.KernelRfl
namespace Go.Proofs.Ytnlfhfpccpokpaa.AI
open Go Go.RowKit
set_option linter.unusedVariables false
set_option linter.unusedSimpArgs false
set_option maxRecDepth 100000
/-- The stack's heap: its own block (106), its frames (block f), each frame's slots (blocks that are not kept). -/
def hk (f nx : Nat) (n c : Nat) (cs : List Value) : AH := ⟨(Tr.nil.set 106 (some (.row false 1 [.slice (some ⟨f, 0, none⟩) n c]))).set f (some (.row false 3 cs)), nx⟩
def vk (k : Nat) : List Value := [.int .i64 1, .int .i64 1, .pointer (some ⟨106, 0, none⟩), .int .i64 (k : Int)]
def frs : Nat → Nat → List Value
  | _, 0 => []
  | j, n + 1 => .int .i64 0 :: .int .i64 0 :: .slice (some ⟨103 + 14 * j, 0, none⟩) 2 4 :: frs (j + 1) n
def fid : Nat → Nat
  | 0 => 105
  | k + 1 => 120 + 14 * k
def capk : Nat → Nat
  | 0 => 2
  | k + 1 => 2 * (k + 2) + 1
def ak (k : Nat) : Blk := .row false 1 [.slice (some ⟨fid k, 0, none⟩) (k + 1) (capk k)]
def bk (k : Nat) : Blk := .row false 3 (frs 0 (k + 1))
def hs (k : Nat) : AH := ⟨(Tr.nil.set 106 (some (ak k))).set (fid k) (some (bk k)), 107 + 14 * k⟩
def sk (k : Nat) : St := ⟨mkT [2, 4, 5, 7] (vk k), 62, hs k, []⟩
noncomputable abbrev B3 {R : Type} (σ : St) (k : XA → St → Option R) := codeBK Try.prog gl0 (regF Try.prog gl0) (callA Try.prog gl0 (regF Try.prog gl0) 60 false) (inK Try.prog gl0 (regF Try.prog gl0) 60) (toLK noLO) (loopN Try.f3 0) σ k
def fin3 (k : Nat) (x : XA) (σ : St) : Option (XA × List Value × Blk × Blk × Nat × Nat) := match σ.ds with
  | [] => match picks [2, 4, 5, 7] σ.T with
    | some vs => match σ.h.get 106 with
      | some a => match σ.h.get (fid k) with
        | some b => some (x, vs, a, b, σ.h.next, σ.n)
        | none => none
      | none => none
    | none => none
  | _ :: _ => none
/-- One round. -/
def ST (k : Nat) : Prop := B3 (sk k) (fin3 (k + 1)) = some (.normal, vk (k + 1), ak (k + 1), bk (k + 1), 107 + 14 * (k + 1), 62)
end Go.Proofs.Ytnlfhfpccpokpaa.AI
