-- PRINTED BY print.sh 35421559b90ae4d0a3588c463048766b98c2df88dd9212a6774a882060cdf62d: not written by this session
import Derived.Test.YtincgimbilnidaaProg
import Derived.Below
import Derived.Deep.Draws
import Derived.Deep.AppendLies
import Derived.Maps.AppendAt
import Derived.OwnWalk
import Derived.Laws.BytesArg
import Derived.Laws.MakeOwn
import Derived.Laws.OwnMore
import Derived.Deep.OwnRows
import Derived.Tactics
import Derived.Lib.ConvBytes
import Derived.Laws.Slices
import Derived.WalkKit
import Derived.KernelRfl
import Derived.RowKit3
import Derived.Deep.LoopGhost
import Derived.Deep.QuietTactic
import Derived.BigQuiet
import Derived.WideLaws
import Derived.Deep.DeepCutAuto
import Derived.Deep.CutBlock
import Derived.Deep.RegionHeld3
import Derived.Laws.Rows
import Derived.Lib.AppendStr
import Derived.ArgAppend
import Derived.Laws.IdiomCopy
import Derived.OrdersHeld
import Derived.Laws.BitsLemmas
import Derived.RowKit
import Derived.Test.YtincgimbilnidaaWWords
import Derived.Test.YtincgimbilnidaaWLast
import Derived.Test.YtincgimbilnidaaWTab
import Derived.Test.YtincgimbilnidaaWFour
import Derived.Test.YtincgimbilnidaaWQPut
import Derived.Test.YtincgimbilnidaaWApart
import Derived.Test.YtincgimbilnidaaWArr
import Derived.Test.YtincgimbilnidaaWZeros
import Derived.Test.YtincgimbilnidaaWFoot
import Derived.Test.YtincgimbilnidaaWKept
import Derived.Test.YtincgimbilnidaaWShare
import Derived.Test.YtincgimbilnidaaWN
import Derived.Test.YtincgimbilnidaaWFootNe
import Derived.Test.YtincgimbilnidaaWAt
import Derived.Test.YtincgimbilnidaaWEqStruct
import Derived.Test.YtincgimbilnidaaWRepsOne
import Derived.Test.YtincgimbilnidaaWInv
import Derived.Test.YtincgimbilnidaaWInvWords
import Derived.Test.YtincgimbilnidaaWGuard
import Derived.Test.YtincgimbilnidaaWNEv
import Derived.Test.YtincgimbilnidaaWMore
namespace Go.Proofs.Ytincgimbilnidaa.PPathWays
open Go.RowKit Go.Proofs.YtincgimbilnidaaW.PrintWords Go.Proofs.YtincgimbilnidaaW.PrintLast Go.Proofs.YtincgimbilnidaaW.PrintMore
attribute [local go_sem] max2_int min2_int max_two min_two max_three min_three max_four min_four   -- for this text's walks alone
set_option linter.unusedVariables false
set_option linter.unusedSimpArgs false



def errW : Option Int → Value
  | none => .nilIface
  | some c => .iface 0 (.int .i64 c)
theorem errW_none : errW none = .nilIface := rfl
theorem errW_some (c : Int) : errW (some c) = .iface 0 (.int .i64 c) := rfl

theorem info3 : (Try.prog.info? 3).map (fun i => (i.zero, i.size, i.bytes)) = some (some (.int .i64 0), 1, 8) := by kernel_rfl
-- the values' own types

end Go.Proofs.Ytincgimbilnidaa.PPathWays
