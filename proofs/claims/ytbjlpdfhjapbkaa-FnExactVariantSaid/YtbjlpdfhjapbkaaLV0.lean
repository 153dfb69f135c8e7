-- Written by a program of this session (a scratch copy of the print with functions taken as proved): Lean checks it.
import Derived.Test.YtbjlpdfhjapbkaaProg
import Derived.Below
import Derived.Deep.Draws
import Derived.Deep.AppendLies
import Derived.Maps.AppendAt
import Derived.OwnWalk
import Derived.Laws.BytesArg
import Derived.Laws.MakeOwn
import Derived.Laws.OwnMore
import Derived.Deep.OwnRows
import Derived.Tactics
import Derived.Lib.ConvBytes
import Derived.Laws.Slices
import Derived.WalkKit
import Derived.KernelRfl
import Derived.RowKit3
import Derived.Deep.LoopGhost
import Derived.Deep.QuietTactic
import Derived.BigQuiet
import Derived.WideLaws
import Derived.Deep.DeepCutAuto
import Derived.Deep.CutBlock
import Derived.Deep.RegionHeld3
import Derived.Laws.Rows
import Derived.Lib.AppendStr
import Derived.ArgAppend
import Derived.Laws.IdiomCopy
import Derived.OrdersHeld
import Derived.Laws.BitsLemmas
import Derived.RowKit
import Derived.Test.YtbjlpdfhjapbkaaWWords
import Derived.Test.YtbjlpdfhjapbkaaWLast
import Derived.Test.YtbjlpdfhjapbkaaWTab
import Derived.Test.YtbjlpdfhjapbkaaWFour
import Derived.Test.YtbjlpdfhjapbkaaWQPut
import Derived.Test.YtbjlpdfhjapbkaaWApart
import Derived.Test.YtbjlpdfhjapbkaaWArr
import Derived.Test.YtbjlpdfhjapbkaaWZeros
import Derived.Test.YtbjlpdfhjapbkaaWFoot
import Derived.Test.YtbjlpdfhjapbkaaWKept
import Derived.Test.YtbjlpdfhjapbkaaWShare
import Derived.Test.YtbjlpdfhjapbkaaWN
import Derived.Test.YtbjlpdfhjapbkaaWFootNe
import Derived.Test.YtbjlpdfhjapbkaaWAt
import Derived.Test.YtbjlpdfhjapbkaaWEqStruct
import Derived.Test.YtbjlpdfhjapbkaaWRepsOne
import Derived.Test.YtbjlpdfhjapbkaaWInv
import Derived.Test.YtbjlpdfhjapbkaaWInvWords
import Derived.Test.YtbjlpdfhjapbkaaWGuard
import Derived.Test.YtbjlpdfhjapbkaaWNEv
import Derived.Test.YtbjlpdfhjapbkaaWMore
namespace Go.Proofs.Ytbjlpdfhjapbkaa.LV
open Go.RowKit Go.Proofs.YtbjlpdfhjapbkaaW.PrintWords Go.Proofs.YtbjlpdfhjapbkaaW.PrintLast Go.Proofs.YtbjlpdfhjapbkaaW.PrintMore
attribute [local go_sem] max2_int min2_int max_two min_two max_three min_three max_four min_four   -- for this text's walks alone
set_option linter.unusedVariables false
set_option linter.unusedSimpArgs false



def errW : Option Int → Value
  | none => .nilIface
  | some c => .iface 0 (.int .i64 c)
theorem errW_none : errW none = .nilIface := rfl
theorem errW_some (c : Int) : errW (some c) = .iface 0 (.int .i64 c) := rfl

theorem info3 : (Try.prog.info? 3).map (fun i => (i.zero, i.size, i.bytes)) = some (some (.int .i64 0), 1, 8) := by kernel_rfl
-- the values' own types

end Go.Proofs.Ytbjlpdfhjapbkaa.LV
