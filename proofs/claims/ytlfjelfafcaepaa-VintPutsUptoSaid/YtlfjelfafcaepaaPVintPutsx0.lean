-- written by this session's own printing program (myprint.sh)
import Derived.Test.YtlfjelfafcaepaaProg
import Derived.Below
import Derived.Deep.Draws
import Derived.Deep.AppendLies
import Derived.Maps.AppendAt
import Derived.OwnWalk
import Derived.Laws.BytesArg
import Derived.Laws.MakeOwn
import Derived.Laws.OwnMore
import Derived.Deep.OwnRows
import Derived.Tactics
import Derived.Lib.ConvBytes
import Derived.Laws.Slices
import Derived.WalkKit
import Derived.KernelRfl
import Derived.RowKit3
import Derived.Deep.LoopGhost
import Derived.Deep.QuietTactic
import Derived.BigQuiet
import Derived.WideLaws
import Derived.Deep.DeepCutAuto
import Derived.Deep.CutBlock
import Derived.Deep.RegionHeld3
import Derived.Laws.Rows
import Derived.Lib.AppendStr
import Derived.ArgAppend
import Derived.Laws.IdiomCopy
import Derived.OrdersHeld
import Derived.Laws.BitsLemmas
import Derived.RowKit
import Derived.Test.YtlfjelfafcaepaaWWords
import Derived.Test.YtlfjelfafcaepaaWLast
import Derived.Test.YtlfjelfafcaepaaWTab
import Derived.Test.YtlfjelfafcaepaaWFour
import Derived.Test.YtlfjelfafcaepaaWQPut
import Derived.Test.YtlfjelfafcaepaaWApart
import Derived.Test.YtlfjelfafcaepaaWArr
import Derived.Test.YtlfjelfafcaepaaWZeros
import Derived.Test.YtlfjelfafcaepaaWFoot
import Derived.Test.YtlfjelfafcaepaaWKept
import Derived.Test.YtlfjelfafcaepaaWShare
import Derived.Test.YtlfjelfafcaepaaWN
import Derived.Test.YtlfjelfafcaepaaWFootNe
import Derived.Test.YtlfjelfafcaepaaWAt
import Derived.Test.YtlfjelfafcaepaaWEqStruct
import Derived.Test.YtlfjelfafcaepaaWRepsOne
import Derived.Test.YtlfjelfafcaepaaWInv
import Derived.Test.YtlfjelfafcaepaaWInvWords
import Derived.Test.YtlfjelfafcaepaaWGuard
import Derived.Test.YtlfjelfafcaepaaWNEv
import Derived.Test.YtlfjelfafcaepaaWMore
namespace Go.Proofs.Ytlfjelfafcaepaa.PVintPuts
open Go.RowKit Go.Proofs.YtlfjelfafcaepaaW.PrintWords Go.Proofs.YtlfjelfafcaepaaW.PrintLast Go.Proofs.YtlfjelfafcaepaaW.PrintMore
attribute [local go_sem] max2_int min2_int max_two min_two max_three min_three max_four min_four   -- for this text's walks alone
set_option linter.unusedVariables false
set_option linter.unusedSimpArgs false



def errW : Option Int → Value
  | none => .nilIface
  | some c => .iface 0 (.int .i64 c)
theorem errW_none : errW none = .nilIface := rfl
theorem errW_some (c : Int) : errW (some c) = .iface 0 (.int .i64 c) := rfl

theorem info5 : (Try.prog.info? 5).map (fun i => (i.zero, i.size, i.bytes)) = some (some (.int .u8 0), 1, 1) := by kernel_rfl
theorem info30 : (Try.prog.info? 30).map (fun i => (i.zero, i.size, i.bytes)) = some (some (.int .u64 0), 1, 8) := by kernel_rfl
-- the values' own types

end Go.Proofs.Ytlfjelfafcaepaa.PVintPuts
