import Derived.Test.YtjmmdpfmnnemoaaProg
import Derived.Below
import Derived.Deep.Draws
import Derived.Deep.AppendLies
import Derived.Maps.AppendAt
import Derived.OwnWalk
import Derived.Laws.BytesArg
import Derived.Laws.MakeOwn
import Derived.Laws.OwnMore
import Derived.Deep.OwnRows
import Derived.Tactics
import Derived.Lib.ConvBytes
import Derived.Laws.Slices
import Derived.WalkKit
import Derived.KernelRfl
import Derived.RowKit3
import Derived.Deep.LoopGhost
import Derived.Deep.QuietTactic
import Derived.BigQuiet
import Derived.WideLaws
import Derived.Deep.DeepCutAuto
import Derived.Deep.CutBlock
import Derived.Deep.RegionHeld3
import Derived.Laws.Rows
import Derived.Lib.AppendStr
import Derived.ArgAppend
import Derived.Laws.IdiomCopy
import Derived.OrdersHeld
import Derived.Laws.BitsLemmas
import Derived.RowKit
import Derived.Test.YtjmmdpfmnnemoaaWWords
import Derived.Test.YtjmmdpfmnnemoaaWLast
import Derived.Test.YtjmmdpfmnnemoaaWTab
import Derived.Test.YtjmmdpfmnnemoaaWFour
import Derived.Test.YtjmmdpfmnnemoaaWQPut
import Derived.Test.YtjmmdpfmnnemoaaWApart
import Derived.Test.YtjmmdpfmnnemoaaWArr
import Derived.Test.YtjmmdpfmnnemoaaWZeros
import Derived.Test.YtjmmdpfmnnemoaaWFoot
import Derived.Test.YtjmmdpfmnnemoaaWKept
import Derived.Test.YtjmmdpfmnnemoaaWShare
import Derived.Test.YtjmmdpfmnnemoaaWN
import Derived.Test.YtjmmdpfmnnemoaaWFootNe
import Derived.Test.YtjmmdpfmnnemoaaWAt
import Derived.Test.YtjmmdpfmnnemoaaWEqStruct
import Derived.Test.YtjmmdpfmnnemoaaWRepsOne
import Derived.Test.YtjmmdpfmnnemoaaWInv
import Derived.Test.YtjmmdpfmnnemoaaWInvWords
import Derived.Test.YtjmmdpfmnnemoaaWGuard
import Derived.Test.YtjmmdpfmnnemoaaWNEv
import Derived.Test.YtjmmdpfmnnemoaaWMore
namespace Go.Proofs.Ytjmmdpfmnnemoaa.PHeadHolds
open Go.RowKit Go.Proofs.YtjmmdpfmnnemoaaW.PrintWords Go.Proofs.YtjmmdpfmnnemoaaW.PrintLast Go.Proofs.YtjmmdpfmnnemoaaW.PrintMore
attribute [local go_sem] max2_int min2_int max_two min_two max_three min_three max_four min_four   -- for this text's walks alone
set_option linter.unusedVariables false
set_option linter.unusedSimpArgs false



def errW : Option Int → Value
  | none => .nilIface
  | some c => .iface 0 (.int .i64 c)
theorem errW_none : errW none = .nilIface := rfl
theorem errW_some (c : Int) : errW (some c) = .iface 0 (.int .i64 c) := rfl

-- the values' own types

end Go.Proofs.Ytjmmdpfmnnemoaa.PHeadHolds
