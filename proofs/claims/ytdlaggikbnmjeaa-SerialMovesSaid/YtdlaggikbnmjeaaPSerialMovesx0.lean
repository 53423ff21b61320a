-- PRINTED BY print.sh 35421559b90ae4d0a3588c463048766b98c2df88dd9212a6774a882060cdf62d: not written by this session
import Derived.Test.YtdlaggikbnmjeaaProg
import Derived.Below
import Derived.Deep.Draws
import Derived.Deep.AppendLies
import Derived.Maps.AppendAt
import Derived.OwnWalk
import Derived.Laws.BytesArg
import Derived.Laws.MakeOwn
import Derived.Laws.OwnMore
import Derived.Deep.OwnRows
import Derived.Tactics
import Derived.Lib.ConvBytes
import Derived.Laws.Slices
import Derived.WalkKit
import Derived.KernelRfl
import Derived.RowKit3
import Derived.Deep.LoopGhost
import Derived.Deep.QuietTactic
import Derived.BigQuiet
import Derived.WideLaws
import Derived.Deep.DeepCutAuto
import Derived.Deep.CutBlock
import Derived.Deep.RegionHeld3
import Derived.Laws.Rows
import Derived.Lib.AppendStr
import Derived.ArgAppend
import Derived.Laws.IdiomCopy
import Derived.OrdersHeld
import Derived.Laws.BitsLemmas
import Derived.RowKit
import Derived.Test.YtdlaggikbnmjeaaWWords
import Derived.Test.YtdlaggikbnmjeaaWLast
import Derived.Test.YtdlaggikbnmjeaaWTab
import Derived.Test.YtdlaggikbnmjeaaWFour
import Derived.Test.YtdlaggikbnmjeaaWQPut
import Derived.Test.YtdlaggikbnmjeaaWApart
import Derived.Test.YtdlaggikbnmjeaaWArr
import Derived.Test.YtdlaggikbnmjeaaWZeros
import Derived.Test.YtdlaggikbnmjeaaWFoot
import Derived.Test.YtdlaggikbnmjeaaWKept
import Derived.Test.YtdlaggikbnmjeaaWShare
import Derived.Test.YtdlaggikbnmjeaaWN
import Derived.Test.YtdlaggikbnmjeaaWFootNe
import Derived.Test.YtdlaggikbnmjeaaWAt
import Derived.Test.YtdlaggikbnmjeaaWEqStruct
import Derived.Test.YtdlaggikbnmjeaaWRepsOne
import Derived.Test.YtdlaggikbnmjeaaWInv
import Derived.Test.YtdlaggikbnmjeaaWInvWords
import Derived.Test.YtdlaggikbnmjeaaWGuard
import Derived.Test.YtdlaggikbnmjeaaWNEv
import Derived.Test.YtdlaggikbnmjeaaWMore
namespace Go.Proofs.Ytdlaggikbnmjeaa.PSerialMoves
open Go.RowKit Go.Proofs.YtdlaggikbnmjeaaW.PrintWords Go.Proofs.YtdlaggikbnmjeaaW.PrintLast Go.Proofs.YtdlaggikbnmjeaaW.PrintMore
attribute [local go_sem] max2_int min2_int max_two min_two max_three min_three max_four min_four   -- for this text's walks alone
set_option linter.unusedVariables false
set_option linter.unusedSimpArgs false



def errW : Option Int → Value
  | none => .nilIface
  | some c => .iface 0 (.int .i64 c)
theorem errW_none : errW none = .nilIface := rfl
theorem errW_some (c : Int) : errW (some c) = .iface 0 (.int .i64 c) := rfl

-- the values' own types

end Go.Proofs.Ytdlaggikbnmjeaa.PSerialMoves
