/- The parser. -/
import Derived.Test.YtachednafdmmaaaDoorPP2
import Derived.KernelRfl
namespace Go.Proofs.YtachednafdmmaaaDoor.AI
open Go Go.RowKit 
set_option linter.unusedVariables false
set_option linter.unusedSimpArgs false
/-- n times. -/
def rp : Nat → List UInt8 → List UInt8
  | 0, _ => []
  | n + 1, l => rp n l ++ l
abbrev preA : List UInt8 := [102, 117, 110, 99, 32, 109, 97, 105, 110, 40, 41, 32, 123, 32, 112, 114, 105, 110, 116, 32]
def opV : Nat → List UInt8
  | 0 => [40]
  | 1 => [45]
  | 2 => [120, 91]
  | _ => [102, 40]
def shV : Nat → List UInt8
  | 0 => [41]
  | 1 => []
  | 2 => [93]
  | _ => [41]
def txA (v n : Nat) : List UInt8 := preA ++ rp n (opV v) ++ [49] ++ rp n (shV v) ++ [59, 32, 125]
def txB (n : Nat) : List UInt8 := [102, 117, 110, 99, 32, 109, 97, 105, 110, 40, 41, 32] ++ rp n [123, 32] ++ rp n [125, 32]
def txC (n : Nat) : List UInt8 := [118, 97, 114, 32, 120, 32] ++ rp n [91, 93] ++ [105, 110, 116, 59]
/-- The outcome of a text. -/
noncomputable def outE (t : List UInt8) : Option Int := match Lx.cutAll t with
  | (ws, none) => (pn (wL (Lx.endW t ws)) 1200 13 .u 0 0 0 0).map fun r => r.e
  | _ => none
end Go.Proofs.YtachednafdmmaaaDoor.AI
