-- PRINTED BY print.sh 35421559b90ae4d0a3588c463048766b98c2df88dd9212a6774a882060cdf62d: not written by this session
import Derived.Test.YtkaeglnnahecjaaProg
import Derived.Below
import Derived.Deep.Draws
import Derived.Deep.AppendLies
import Derived.Maps.AppendAt
import Derived.OwnWalk
import Derived.Laws.BytesArg
import Derived.Laws.MakeOwn
import Derived.Laws.OwnMore
import Derived.Deep.OwnRows
import Derived.Tactics
import Derived.Lib.ConvBytes
import Derived.Laws.Slices
import Derived.WalkKit
import Derived.KernelRfl
import Derived.RowKit3
import Derived.Deep.LoopGhost
import Derived.Deep.QuietTactic
import Derived.BigQuiet
import Derived.WideLaws
import Derived.Deep.DeepCutAuto
import Derived.Deep.CutBlock
import Derived.Deep.RegionHeld3
import Derived.Laws.Rows
import Derived.Lib.AppendStr
import Derived.ArgAppend
import Derived.Laws.IdiomCopy
import Derived.OrdersHeld
import Derived.Laws.BitsLemmas
import Derived.RowKit
import Derived.Test.YtkaeglnnahecjaaWWords
import Derived.Test.YtkaeglnnahecjaaWLast
import Derived.Test.YtkaeglnnahecjaaWTab
import Derived.Test.YtkaeglnnahecjaaWFour
import Derived.Test.YtkaeglnnahecjaaWQPut
import Derived.Test.YtkaeglnnahecjaaWApart
import Derived.Test.YtkaeglnnahecjaaWArr
import Derived.Test.YtkaeglnnahecjaaWZeros
import Derived.Test.YtkaeglnnahecjaaWFoot
import Derived.Test.YtkaeglnnahecjaaWKept
import Derived.Test.YtkaeglnnahecjaaWShare
import Derived.Test.YtkaeglnnahecjaaWN
import Derived.Test.YtkaeglnnahecjaaWFootNe
import Derived.Test.YtkaeglnnahecjaaWAt
import Derived.Test.YtkaeglnnahecjaaWEqStruct
import Derived.Test.YtkaeglnnahecjaaWRepsOne
import Derived.Test.YtkaeglnnahecjaaWInv
import Derived.Test.YtkaeglnnahecjaaWInvWords
import Derived.Test.YtkaeglnnahecjaaWGuard
import Derived.Test.YtkaeglnnahecjaaWNEv
import Derived.Test.YtkaeglnnahecjaaWMore
namespace Go.Proofs.Ytkaeglnnahecjaa.PRadixLongest
open Go.RowKit Go.Proofs.YtkaeglnnahecjaaW.PrintWords Go.Proofs.YtkaeglnnahecjaaW.PrintLast Go.Proofs.YtkaeglnnahecjaaW.PrintMore
attribute [local go_sem] max2_int min2_int max_two min_two max_three min_three max_four min_four   -- for this text's walks alone
set_option linter.unusedVariables false
set_option linter.unusedSimpArgs false



def errW : Option Int → Value
  | none => .nilIface
  | some c => .iface 0 (.int .i64 c)
theorem errW_none : errW none = .nilIface := rfl
theorem errW_some (c : Int) : errW (some c) = .iface 0 (.int .i64 c) := rfl

-- the values' own types

end Go.Proofs.Ytkaeglnnahecjaa.PRadixLongest
