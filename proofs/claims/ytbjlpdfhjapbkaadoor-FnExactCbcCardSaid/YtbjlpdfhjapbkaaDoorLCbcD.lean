-- Written by a program of this session (a scratch copy of the print with functions taken as proved): Lean checks it.
import Derived.Test.YtbjlpdfhjapbkaaDoorProg
import Derived.Below
import Derived.Deep.Draws
import Derived.Deep.AppendLies
import Derived.Maps.AppendAt
import Derived.OwnWalk
import Derived.Laws.BytesArg
import Derived.Laws.MakeOwn
import Derived.Laws.OwnMore
import Derived.Deep.OwnRows
import Derived.Tactics
import Derived.Lib.ConvBytes
import Derived.Laws.Slices
import Derived.WalkKit
import Derived.KernelRfl
import Derived.RowKit3
import Derived.Deep.LoopGhost
import Derived.Deep.QuietTactic
import Derived.BigQuiet
import Derived.WideLaws
import Derived.Deep.DeepCutAuto
import Derived.Deep.CutBlock
import Derived.Deep.RegionHeld3
import Derived.Laws.Rows
import Derived.Lib.AppendStr
import Derived.ArgAppend
import Derived.Laws.IdiomCopy
import Derived.OrdersHeld
import Derived.Laws.BitsLemmas
import Derived.RowKit
import Derived.Test.YtbjlpdfhjapbkaaDoorWWords
import Derived.Test.YtbjlpdfhjapbkaaDoorWLast
import Derived.Test.YtbjlpdfhjapbkaaDoorWTab
import Derived.Test.YtbjlpdfhjapbkaaDoorWApart
import Derived.Test.YtbjlpdfhjapbkaaDoorWArr
import Derived.Test.YtbjlpdfhjapbkaaDoorWFoot
import Derived.Test.YtbjlpdfhjapbkaaDoorWKept
import Derived.Test.YtbjlpdfhjapbkaaDoorWShare
import Derived.Test.YtbjlpdfhjapbkaaDoorWN
import Derived.Test.YtbjlpdfhjapbkaaDoorWFootNe
import Derived.Test.YtbjlpdfhjapbkaaDoorWAt
import Derived.Test.YtbjlpdfhjapbkaaDoorWRepsOne
import Derived.Test.YtbjlpdfhjapbkaaDoorWGuard
import Derived.Test.YtbjlpdfhjapbkaaDoorWMore
import Derived.Test.YtbjlpdfhjapbkaaDoorCbcP
import Derived.Test.YtbjlpdfhjapbkaaDoorDesPW
namespace Go.Proofs.YtbjlpdfhjapbkaaDoor.LCbc
open Go.RowKit Go.Proofs.YtbjlpdfhjapbkaaDoorW.PrintWords Go.Proofs.YtbjlpdfhjapbkaaDoorW.PrintLast Go.Proofs.YtbjlpdfhjapbkaaDoorW.PrintMore
attribute [local go_sem] max2_int min2_int max_two min_two max_three min_three max_four min_four   -- for this text's walks alone
set_option linter.unusedVariables false
set_option linter.unusedSimpArgs false



def errW : Option Int → Value
  | none => .nilIface
  | some c => .iface 0 (.int .i64 c)
theorem errW_none : errW none = .nilIface := rfl
theorem errW_some (c : Int) : errW (some c) = .iface 0 (.int .i64 c) := rfl

theorem info3 : (Tryd.prog.info? 3).map (fun i => (i.zero, i.size, i.bytes)) = some (some (.int .i64 0), 1, 8) := by kernel_rfl
theorem info5 : (Tryd.prog.info? 5).map (fun i => (i.zero, i.size, i.bytes)) = some (some (.int .u8 0), 1, 1) := by kernel_rfl
-- the values' own types
/-! ### laws_FnExactCbc: function 9 -/
def laws_FnExactCbc.j0 : Nat → List Int → List Int → List Int → Bool → List Int → List Int → Bool → Option (Bool)
  | 0, _, _, _, _, _, _, _ => none
  | k + 1, x0, x1, x2, x3, x9, x13, x81 => if x81 = true then (some false) else ((laws_markByteS.f x13 1).bind fun bt259 => ((laws_heldByteS.f bt259.2 1).bind fun t261 => (if t261 < 0 then (some false) else (if t261 = bt259.1 then ((laws_toByteS.f x0).bind fun t262 => ((laws_toByteS.f x1).bind fun t265 => ((laws_toByteS.f x2).bind fun t268 => ((impl_Cbc.f t262 t265 t268 x3).bind fun t271 => ((laws_eqByteS.f t271 x9).bind fun t274 => (if t274 = true then ((laws_heldByteS.f bt259.2 1).bind fun t275 => (if t275 < 0 then (some false) else (if t275 = bt259.1 then (some true) else (some false)))) else (some false))))))) else (some false)))))
def laws_FnExactCbc.f (k : Nat) (l0 : List Int) (l1 : List Int) (l2 : List Int) (a3 : Bool) : Option (Bool) := if (l0.length : Int) > 1048576 then (some true) else (if (l1.length : Int) > 1048576 then (some true) else (if (l2.length : Int) > 1048576 then (some true) else ((laws_toByteS.f l0).bind fun t215 => ((laws_toByteS.f l1).bind fun t218 => ((laws_toByteS.f l2).bind fun t221 => ((spec_Cbc.f t215 t218 t221 a3).bind fun t224 => ((laws_toByteS.f l0).bind fun t227 => ((laws_toByteS.f l1).bind fun t230 => ((laws_toByteS.f l2).bind fun t233 => ((impl_Cbc.f t227 t230 t233 a3).bind fun t236 => ((laws_eqByteS.f t236 t224).bind fun t239 => (if t239 = true then ((laws_toByteS.f l0).bind fun t240 => ((laws_eqByteS.f t227 t240).bind fun t243 => (if t243 = true then ((laws_toByteS.f l1).bind fun t244 => ((laws_eqByteS.f t230 t244).bind fun t247 => (if t247 = true then ((laws_toByteS.f l2).bind fun t248 => ((laws_eqByteS.f t233 t248).bind fun t251 => (if t251 = true then ((laws_markByteS.f t227 1).bind fun bt252 => ((laws_markByteS.f t230 bt252.1).bind fun bt254 => ((laws_markByteS.f t233 bt254.1).bind fun bt256 => (if bt256.1 < 0 then (laws_FnExactCbc.j0 k l0 l1 l2 a3 t224 t236 true) else ((laws_eqByteS.f t236 t224).bind fun t258 => (laws_FnExactCbc.j0 k l0 l1 l2 a3 t224 t236 (!t258))))))) else (some false)))) else (some false)))) else (some false)))) else (some false)))))))))))))
theorem laws_FnExactCbc.mono_l : ∀ k, (∀ y0 y1 y2 y3 y4 y5 y6, LeO (laws_FnExactCbc.j0 k y0 y1 y2 y3 y4 y5 y6) (laws_FnExactCbc.j0 (k + 1) y0 y1 y2 y3 y4 y5 y6))
  | 0 => fun _ _ _ _ _ _ _ r h => by simp [laws_FnExactCbc.j0] at h
  | k + 1 => by
    have ih0 := laws_FnExactCbc.mono_l k
    · intro y0 y1 y2 y3 y4 y5 y6
      unfold laws_FnExactCbc.j0
      repeat' first
      | (with_reducible exact ih0 _ _ _ _ _ _ _)
      | (with_reducible exact LeO.refl _)
      | (with_reducible exact LeO.none _)
      | (with_reducible refine LeO.ite ?_ ?_)
      | (with_reducible refine LeO.bind ?_ (fun _ => ?_))
      | exact ih0 _ _ _ _ _ _ _
      | exact LeO.none _
      | refine LeO.ite ?_ ?_
      | refine LeO.bind ?_ (fun _ => ?_)
theorem laws_FnExactCbc.mono : ∀ a0 a1 a2 a3 k, LeO (laws_FnExactCbc.f k a0 a1 a2 a3) (laws_FnExactCbc.f (k + 1) a0 a1 a2 a3) := by
  intro a0 a1 a2 a3 k
  have ih0 := laws_FnExactCbc.mono_l k
  unfold laws_FnExactCbc.f
  repeat' first
      | (with_reducible exact ih0 _ _ _ _ _ _ _)
      | (with_reducible exact LeO.refl _)
      | (with_reducible exact LeO.none _)
      | (with_reducible refine LeO.ite ?_ ?_)
      | (with_reducible refine LeO.bind ?_ (fun _ => ?_))
      | exact ih0 _ _ _ _ _ _ _
      | exact LeO.none _
      | refine LeO.ite ?_ ?_
      | refine LeO.bind ?_ (fun _ => ?_)

end Go.Proofs.YtbjlpdfhjapbkaaDoor.LCbc
