/- Calls upon calls, round by round: what is told. -/
import Derived.Test.YtnlfhfpccpokpaaProg
import Derived.Test.YtnlfhfpccpokpaaAIle
import Derived.KernelRfl
import Derived.Laws.BitsLemmas
namespace Go.Proofs.Ytnlfhfpccpokpaa.AI
open Go Go.RowKit
set_option linter.unusedVariables false
set_option linter.unusedSimpArgs false
set_option maxRecDepth 100000
def xv (v k : Int) : Int := IntKind.wrap IntKind.i64 (↑(BitVec.toNat (BitVec.ofInt 64 v ^^^ BitVec.ofInt 64 k)) : Int)
def frs : Nat → Nat → List Value
  | _, 0 => []
  | j, n + 1 => .int .i64 0 :: .int .i64 0 :: .slice (some ⟨84 + 14 * j, 0, none⟩) 2 4 :: frs (j + 1) n
def slot (v : Int) : Nat → Blk
  | 0 => .row false 1 [.int .i64 v, .int .i64 0]
  | j + 1 => .row false 1 [.int .i64 (xv v ((j + 1 : Nat) : Int)), .int .i64 ((1001 + j : Nat) : Int)]
def sls (v : Int) : Nat → Nat → List Blk
  | _, 0 => []
  | j, n + 1 => slot v j :: sls v (j + 1) n
def sid : Nat → Nat → List Nat
  | _, 0 => []
  | j, n + 1 => (84 + 14 * j) :: sid (j + 1) n
def sidh : Nat → Nat → List Nat
  | _, 0 => []
  | j, n + 1 => (41 + 7 * j) :: sidh (j + 1) n
def dp : Value := .pointer (some ⟨87, 0, none⟩)
/-- m frames (from 1 on): the array's block, its room. -/
def fid : Nat → Nat
  | 0 => 0
  | 1 => 86
  | m + 2 => 101 + 14 * m
def capk : Nat → Nat
  | 0 => 0
  | 1 => 2
  | m + 2 => 2 * (m + 2) + 1
def mm (k : Nat) : Nat := bif Nat.ble k 256 then k else 256
def nxx (k : Nat) : Nat := bif Nat.ble k 256 then 74 + 14 * k else 3658 + 12 * (k - 256)
def stb (f l c : Nat) : Blk := .row false 1 [.slice (some ⟨f, 0, none⟩) l c]
def idk (f m : Nat) : List Nat := 87 :: f :: sid 0 m
def blk (f m l c : Nat) (v : Int) : List Blk := stb f l c :: .row false 3 (frs 0 m) :: sls v 0 m
def vu (n v : Int) (k : Nat) : List Value := [.int .i64 n, .int .i64 v, dp, .int .i64 (k : Int)]
def vd (v : Int) (k : Nat) : List Value := [.int .i64 v, dp, .int .i64 (k : Int)]
def su (m k nx : Nat) (n v : Int) : St := ⟨mkT [0, 1, 5, 7] (vu n v k), 104, ⟨mkL (idk (fid m) m) (blk (fid m) m m (capk m) v), nx⟩, []⟩
def sd (m : Nat) (v : Int) : St := ⟨mkT [1, 5, 10] (vd v (m - 1)), 104, ⟨mkL (idk 85 m) (blk 85 m m (2 * m + 1) v), 4000⟩, []⟩
noncomputable abbrev B5 {R : Type} (j : Nat) (σ : St) (k : XA → St → Option R) := codeBK Try.prog gl0 (regF Try.prog gl0) (callA Try.prog gl0 (regF Try.prog gl0) 60 false) (inK Try.prog gl0 (regF Try.prog gl0) 60) (toLK noLO) (loopN Try.f5 j) σ k
/-- A round on the way up. -/
def UP (k : Nat) : Prop := ∀ n v : Int, B5 0 (su (mm k) k (nxx k) n v) (finN [0, 1, 5, 7] (idk (fid (mm (k + 1))) (mm (k + 1)))) =
  (bif decide ((k : Int) < n) then some (.normal, vu n v (k + 1), blk (fid (mm (k + 1))) (mm (k + 1)) (mm (k + 1)) (capk (mm (k + 1))) v, nxx (k + 1), 104)
   else bif Nat.ble 256 k then some (.exit 0, vu n v k, blk (fid 256) 256 256 (capk 256) v, nxx k, 104) else none)
/-- Where it ends. -/
def UX (k : Nat) : Prop := ∀ (v : Int) (h : AH), B5 0 ⟨mkT [0, 1, 5, 7] (vu (k : Int) v k), 104, h, []⟩ (finT [0, 1, 5, 7]) = some (.exit 0, vu (k : Int) v k, h, 104)
/-- A round on the way down. -/
def DN (m : Nat) : Prop := ∀ v : Int, B5 1 (sd m v) (finN [1, 5, 10] (idk 85 m)) =
  (bif xv v ((m - 1 : Nat) : Int) != xv v ((m - 1 : Nat) : Int) then some (.ret, vd v (m - 1), blk 85 m m (2 * m + 1) v, 4000, 104) else some (.normal, vd v (m - 2), blk 85 m (m - 1) (2 * m + 1) v, 4000, 104))

end Go.Proofs.Ytnlfhfpccpokpaa.AI
