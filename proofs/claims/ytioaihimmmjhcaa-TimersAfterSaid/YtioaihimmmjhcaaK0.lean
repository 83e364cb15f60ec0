-- Written by a program of this session (wip/tools/printfam.py) out of the translation; hand-proved contracts set in. Lean checks it.
import Derived.Test.YtioaihimmmjhcaaProg
import Derived.Below
import Derived.Deep.Draws
import Derived.Deep.AppendLies
import Derived.Maps.AppendAt
import Derived.OwnWalk
import Derived.Laws.BytesArg
import Derived.Laws.MakeOwn
import Derived.Laws.OwnMore
import Derived.Deep.OwnRows
import Derived.Tactics
import Derived.Lib.ConvBytes
import Derived.Laws.Slices
import Derived.WalkKit
import Derived.KernelRfl
import Derived.RowKit3
import Derived.Deep.LoopGhost
import Derived.Deep.QuietTactic
import Derived.BigQuiet
import Derived.WideLaws
import Derived.Deep.DeepCutAuto
import Derived.Deep.CutBlock
import Derived.Deep.RegionHeld3
import Derived.Laws.Rows
import Derived.Lib.AppendStr
import Derived.ArgAppend
import Derived.Laws.IdiomCopy
import Derived.OrdersHeld
import Derived.Laws.BitsLemmas
import Derived.RowKit
import Derived.Test.YtioaihimmmjhcaaT15
import Derived.Test.YtioaihimmmjhcaaWWords
import Derived.Test.YtioaihimmmjhcaaWLast
import Derived.Test.YtioaihimmmjhcaaWTab
import Derived.Test.YtioaihimmmjhcaaWFour
import Derived.Test.YtioaihimmmjhcaaWQPut
import Derived.Test.YtioaihimmmjhcaaWApart
import Derived.Test.YtioaihimmmjhcaaWArr
import Derived.Test.YtioaihimmmjhcaaWZeros
import Derived.Test.YtioaihimmmjhcaaWFoot
import Derived.Test.YtioaihimmmjhcaaWKept
import Derived.Test.YtioaihimmmjhcaaWShare
import Derived.Test.YtioaihimmmjhcaaWN
import Derived.Test.YtioaihimmmjhcaaWFootNe
import Derived.Test.YtioaihimmmjhcaaWAt
import Derived.Test.YtioaihimmmjhcaaWEqStruct
import Derived.Test.YtioaihimmmjhcaaWRepsOne
import Derived.Test.YtioaihimmmjhcaaWInv
import Derived.Test.YtioaihimmmjhcaaWInvWords
import Derived.Test.YtioaihimmmjhcaaWGuard
import Derived.Test.YtioaihimmmjhcaaWNEv
import Derived.Test.YtioaihimmmjhcaaWMore
namespace Go.Proofs.Ytioaihimmmjhcaa.K
open Go.RowKit Go.Proofs.YtioaihimmmjhcaaW.PrintWords Go.Proofs.YtioaihimmmjhcaaW.PrintLast Go.Proofs.YtioaihimmmjhcaaW.PrintMore
attribute [local go_sem] max2_int min2_int max_two min_two max_three min_three max_four min_four   -- for this text's walks alone
set_option linter.unusedVariables false
set_option linter.unusedSimpArgs false



def errW : Option Int → Value
  | none => .nilIface
  | some c => .iface 0 (.int .i64 c)
theorem errW_none : errW none = .nilIface := rfl
theorem errW_some (c : Int) : errW (some c) = .iface 0 (.int .i64 c) := rfl

-- the values' own types

end Go.Proofs.Ytioaihimmmjhcaa.K
