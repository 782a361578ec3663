-- written by this session's own printing program (myprint.sh)
import Derived.Test.YtaibfjipombilaaProg
import Derived.Below
import Derived.Deep.Draws
import Derived.Deep.AppendLies
import Derived.Maps.AppendAt
import Derived.OwnWalk
import Derived.Laws.BytesArg
import Derived.Laws.MakeOwn
import Derived.Laws.OwnMore
import Derived.Deep.OwnRows
import Derived.Tactics
import Derived.Lib.ConvBytes
import Derived.Laws.Slices
import Derived.WalkKit
import Derived.KernelRfl
import Derived.RowKit3
import Derived.Deep.LoopGhost
import Derived.Deep.QuietTactic
import Derived.BigQuiet
import Derived.WideLaws
import Derived.Deep.DeepCutAuto
import Derived.Deep.CutBlock
import Derived.Deep.RegionHeld3
import Derived.Laws.Rows
import Derived.Lib.AppendStr
import Derived.ArgAppend
import Derived.Laws.IdiomCopy
import Derived.OrdersHeld
import Derived.Laws.BitsLemmas
import Derived.RowKit
import Derived.Lib.BytesEntry
import Derived.Laws.Externs
import Derived.Test.YtaibfjipombilaaWWords
import Derived.Test.YtaibfjipombilaaWLast
import Derived.Test.YtaibfjipombilaaWTab
import Derived.Test.YtaibfjipombilaaWFour
import Derived.Test.YtaibfjipombilaaWQPut
import Derived.Test.YtaibfjipombilaaWApart
import Derived.Test.YtaibfjipombilaaWArr
import Derived.Test.YtaibfjipombilaaWZeros
import Derived.Test.YtaibfjipombilaaWFoot
import Derived.Test.YtaibfjipombilaaWKept
import Derived.Test.YtaibfjipombilaaWShare
import Derived.Test.YtaibfjipombilaaWN
import Derived.Test.YtaibfjipombilaaWFootNe
import Derived.Test.YtaibfjipombilaaWAt
import Derived.Test.YtaibfjipombilaaWEqStruct
import Derived.Test.YtaibfjipombilaaWRepsOne
import Derived.Test.YtaibfjipombilaaWInv
import Derived.Test.YtaibfjipombilaaWInvWords
import Derived.Test.YtaibfjipombilaaWGuard
import Derived.Test.YtaibfjipombilaaWNEv
import Derived.Test.YtaibfjipombilaaWMore
namespace Go.Proofs.Ytaibfjipombilaa.PCellPuts
open Go.RowKit Go.Proofs.YtaibfjipombilaaW.PrintWords Go.Proofs.YtaibfjipombilaaW.PrintLast Go.Proofs.YtaibfjipombilaaW.PrintMore
attribute [local go_sem] max2_int min2_int max_two min_two max_three min_three max_four min_four   -- for this text's walks alone
set_option linter.unusedVariables false
set_option linter.unusedSimpArgs false



def errW : Option Int → Value
  | none => .nilIface
  | some c => .iface 0 (.int .i64 c)
theorem errW_none : errW none = .nilIface := rfl
theorem errW_some (c : Int) : errW (some c) = .iface 0 (.int .i64 c) := rfl

theorem info3 : (Try.prog.info? 3).map (fun i => (i.zero, i.size, i.bytes)) = some (some (.int .i64 0), 1, 8) := by kernel_rfl
theorem info5 : (Try.prog.info? 5).map (fun i => (i.zero, i.size, i.bytes)) = some (some (.int .u8 0), 1, 1) := by kernel_rfl
-- the values' own types

end Go.Proofs.Ytaibfjipombilaa.PCellPuts
