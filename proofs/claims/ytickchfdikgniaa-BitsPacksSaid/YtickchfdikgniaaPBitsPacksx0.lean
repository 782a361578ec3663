-- written by this session's own printing program (myprint.sh)
import Derived.Test.YtickchfdikgniaaProg
import Derived.Below
import Derived.Deep.Draws
import Derived.Deep.AppendLies
import Derived.Maps.AppendAt
import Derived.OwnWalk
import Derived.Laws.BytesArg
import Derived.Laws.MakeOwn
import Derived.Laws.OwnMore
import Derived.Deep.OwnRows
import Derived.Tactics
import Derived.Lib.ConvBytes
import Derived.Laws.Slices
import Derived.WalkKit
import Derived.KernelRfl
import Derived.RowKit3
import Derived.Deep.LoopGhost
import Derived.Deep.QuietTactic
import Derived.BigQuiet
import Derived.WideLaws
import Derived.Deep.DeepCutAuto
import Derived.Deep.CutBlock
import Derived.Deep.RegionHeld3
import Derived.Laws.Rows
import Derived.Lib.AppendStr
import Derived.ArgAppend
import Derived.Laws.IdiomCopy
import Derived.OrdersHeld
import Derived.Laws.BitsLemmas
import Derived.RowKit
import Derived.Test.YtickchfdikgniaaWWords
import Derived.Test.YtickchfdikgniaaWLast
import Derived.Test.YtickchfdikgniaaWTab
import Derived.Test.YtickchfdikgniaaWFour
import Derived.Test.YtickchfdikgniaaWQPut
import Derived.Test.YtickchfdikgniaaWApart
import Derived.Test.YtickchfdikgniaaWArr
import Derived.Test.YtickchfdikgniaaWZeros
import Derived.Test.YtickchfdikgniaaWFoot
import Derived.Test.YtickchfdikgniaaWKept
import Derived.Test.YtickchfdikgniaaWShare
import Derived.Test.YtickchfdikgniaaWN
import Derived.Test.YtickchfdikgniaaWFootNe
import Derived.Test.YtickchfdikgniaaWAt
import Derived.Test.YtickchfdikgniaaWEqStruct
import Derived.Test.YtickchfdikgniaaWRepsOne
import Derived.Test.YtickchfdikgniaaWInv
import Derived.Test.YtickchfdikgniaaWInvWords
import Derived.Test.YtickchfdikgniaaWGuard
import Derived.Test.YtickchfdikgniaaWNEv
import Derived.Test.YtickchfdikgniaaWMore
namespace Go.Proofs.Ytickchfdikgniaa.PBitsPacks
open Go.RowKit Go.Proofs.YtickchfdikgniaaW.PrintWords Go.Proofs.YtickchfdikgniaaW.PrintLast Go.Proofs.YtickchfdikgniaaW.PrintMore
attribute [local go_sem] max2_int min2_int max_two min_two max_three min_three max_four min_four   -- for this text's walks alone
set_option linter.unusedVariables false
set_option linter.unusedSimpArgs false



def errW : Option Int → Value
  | none => .nilIface
  | some c => .iface 0 (.int .i64 c)
theorem errW_none : errW none = .nilIface := rfl
theorem errW_some (c : Int) : errW (some c) = .iface 0 (.int .i64 c) := rfl

theorem info5 : (Try.prog.info? 5).map (fun i => (i.zero, i.size, i.bytes)) = some (some (.int .u8 0), 1, 1) := by kernel_rfl
theorem info41 : (Try.prog.info? 41).map (fun i => (i.zero, i.size, i.bytes)) = some (some (.int .u64 0), 1, 8) := by kernel_rfl
-- the values' own types

end Go.Proofs.Ytickchfdikgniaa.PBitsPacks
