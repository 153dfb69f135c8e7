-- Written by a program of this session (a scratch copy of the print with functions taken as proved): Lean checks it.
import Derived.Test.YtiejallnkgllnaaProg
import Derived.Below
import Derived.Deep.Draws
import Derived.Deep.AppendLies
import Derived.Maps.AppendAt
import Derived.OwnWalk
import Derived.Laws.BytesArg
import Derived.Laws.MakeOwn
import Derived.Laws.OwnMore
import Derived.Deep.OwnRows
import Derived.Tactics
import Derived.Lib.ConvBytes
import Derived.Laws.Slices
import Derived.WalkKit
import Derived.KernelRfl
import Derived.RowKit3
import Derived.Deep.LoopGhost
import Derived.Deep.QuietTactic
import Derived.BigQuiet
import Derived.WideLaws
import Derived.Deep.DeepCutAuto
import Derived.Deep.CutBlock
import Derived.Deep.RegionHeld3
import Derived.Laws.Rows
import Derived.Lib.AppendStr
import Derived.ArgAppend
import Derived.Laws.IdiomCopy
import Derived.OrdersHeld
import Derived.Laws.BitsLemmas
import Derived.RowKit
import Derived.Test.YtiejallnkgllnaaWWords
import Derived.Test.YtiejallnkgllnaaWLast
import Derived.Test.YtiejallnkgllnaaWTab
import Derived.Test.YtiejallnkgllnaaWFour
import Derived.Test.YtiejallnkgllnaaWQPut
import Derived.Test.YtiejallnkgllnaaWApart
import Derived.Test.YtiejallnkgllnaaWArr
import Derived.Test.YtiejallnkgllnaaWZeros
import Derived.Test.YtiejallnkgllnaaWFoot
import Derived.Test.YtiejallnkgllnaaWKept
import Derived.Test.YtiejallnkgllnaaWShare
import Derived.Test.YtiejallnkgllnaaWN
import Derived.Test.YtiejallnkgllnaaWFootNe
import Derived.Test.YtiejallnkgllnaaWAt
import Derived.Test.YtiejallnkgllnaaWEqStruct
import Derived.Test.YtiejallnkgllnaaWRepsOne
import Derived.Test.YtiejallnkgllnaaWInv
import Derived.Test.YtiejallnkgllnaaWInvWords
import Derived.Test.YtiejallnkgllnaaWGuard
import Derived.Test.YtiejallnkgllnaaWNEv
import Derived.Test.YtiejallnkgllnaaWMore
namespace Go.Proofs.Ytiejallnkgllnaa.LPin
open Go.RowKit Go.Proofs.YtiejallnkgllnaaW.PrintWords Go.Proofs.YtiejallnkgllnaaW.PrintLast Go.Proofs.YtiejallnkgllnaaW.PrintMore
attribute [local go_sem] max2_int min2_int max_two min_two max_three min_three max_four min_four   -- for this text's walks alone
set_option linter.unusedVariables false
set_option linter.unusedSimpArgs false



def errW : Option Int → Value
  | none => .nilIface
  | some c => .iface 0 (.int .i64 c)
theorem errW_none : errW none = .nilIface := rfl
theorem errW_some (c : Int) : errW (some c) = .iface 0 (.int .i64 c) := rfl

theorem info5 : (Try.prog.info? 5).map (fun i => (i.zero, i.size, i.bytes)) = some (some (.int .u8 0), 1, 1) := by kernel_rfl
-- the values' own types

end Go.Proofs.Ytiejallnkgllnaa.LPin
