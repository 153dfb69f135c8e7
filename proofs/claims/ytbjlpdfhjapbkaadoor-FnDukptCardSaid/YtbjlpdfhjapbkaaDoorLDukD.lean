-- Written by a program of this session (a scratch copy of the print with functions taken as proved): Lean checks it.
import Derived.Test.YtbjlpdfhjapbkaaDoorDkeyP
import Derived.Test.YtbjlpdfhjapbkaaDoorDukP
import Derived.Test.YtbjlpdfhjapbkaaDoorIniP
namespace Go.Proofs.YtbjlpdfhjapbkaaDoor.LDuk
open Go.RowKit Go.Proofs.YtbjlpdfhjapbkaaDoorW.PrintWords Go.Proofs.YtbjlpdfhjapbkaaDoorW.PrintLast Go.Proofs.YtbjlpdfhjapbkaaDoorW.PrintMore
attribute [local go_sem] max2_int min2_int max_two min_two max_three min_three max_four min_four   -- for this text's walks alone
set_option linter.unusedVariables false
set_option linter.unusedSimpArgs false

/-! ### laws_FnDukpt: function 11 -/
def laws_FnDukpt.j0 : Nat → List Int → List Int → List Int → List Int → List Int → Bool → Option (Bool)
  | 0, _, _, _, _, _, _ => none
  | k + 1, x7, x10, x12, x13, x14, x131 => if x131 = true then (some false) else (if 8 ≤ (x12.length : Int) then ((laws_xor.f k x13 (x12.drop 8)).bind fun t381 => (if 8 ≤ (x10.length : Int) then ((laws_xor.f k x14 (x10.drop 8)).bind fun t388 => (if t381.length + t388.length < 140737488355328 then ((laws_same.f x7 (t381 ++ t388)).bind fun t394 => (some t394)) else (none))) else (none))) else (none))
def laws_FnDukpt.f (k : Nat) (l0 : List Int) : Option (Bool) := if (l0.length : Int) > 1048576 then (some true) else ((laws_cut.f k l0 0 16).bind fun t296 => ((spec_DrawDukptKey.f l0).bind fun bt299 => (if (bt299.2.length : Int) = 10 then (if 7 < (bt299.2.length : Int) then (if 8 < (bt299.2.length : Int) then (if 9 < (bt299.2.length : Int) then ((impl_DukptKey.f t296 bt299.2).bind fun t311 => (if (Go.bits .or .i64 (Go.bits .or .i64 (wrap64 ((wrap64 (Go.bits .and .u8 (rd bt299.2 7) 31)) * 65536)) (wrap64 ((wrap64 (rd bt299.2 8)) * 256))) (wrap64 (rd bt299.2 9))) = 0 then (if (t311.length : Int) = 16 then ((impl_DukptInitial.f t296 bt299.2).bind fun t314 => ((laws_same.f t311 t314).bind fun t317 => (if t317 = true then ((spec_DukptInitial.f t296 bt299.2).bind fun t318 => ((laws_same.f t311 t318).bind fun t321 => (some t321))) else (some false)))) else (some false)) else ((some (([] : List Int) : List Int)).bind fun y322 => (if y322.length + bt299.2.length < 140737488355328 then ((some (y322 ++ bt299.2 : List Int)).bind fun y325 => (if 7 < (y325.length : Int) then (if 8 < (y325.length : Int) then (if 9 < (y325.length : Int) then ((impl_DukptKey.f t296 (((y325.set (7 : Int).toNat (Go.bits .or .u8 (Go.bits .and .u8 (rd y325 7) 224) (((Go.bits .and .i64 (Go.bits .or .i64 (Go.bits .or .i64 (wrap64 ((wrap64 (Go.bits .and .u8 (rd bt299.2 7) 31)) * 65536)) (wrap64 ((wrap64 (rd bt299.2 8)) * 256))) (wrap64 (rd bt299.2 9))) (wrap64 ((Go.bits .or .i64 (Go.bits .or .i64 (wrap64 ((wrap64 (Go.bits .and .u8 (rd bt299.2 7) 31)) * 65536)) (wrap64 ((wrap64 (rd bt299.2 8)) * 256))) (wrap64 (rd bt299.2 9))) - 1))) / 65536) % 256))).set (8 : Int).toNat (((Go.bits .and .i64 (Go.bits .or .i64 (Go.bits .or .i64 (wrap64 ((wrap64 (Go.bits .and .u8 (rd bt299.2 7) 31)) * 65536)) (wrap64 ((wrap64 (rd bt299.2 8)) * 256))) (wrap64 (rd bt299.2 9))) (wrap64 ((Go.bits .or .i64 (Go.bits .or .i64 (wrap64 ((wrap64 (Go.bits .and .u8 (rd bt299.2 7) 31)) * 65536)) (wrap64 ((wrap64 (rd bt299.2 8)) * 256))) (wrap64 (rd bt299.2 9))) - 1))) / 256) % 256)).set (9 : Int).toNat ((Go.bits .and .i64 (Go.bits .or .i64 (Go.bits .or .i64 (wrap64 ((wrap64 (Go.bits .and .u8 (rd bt299.2 7) 31)) * 65536)) (wrap64 ((wrap64 (rd bt299.2 8)) * 256))) (wrap64 (rd bt299.2 9))) (wrap64 ((Go.bits .or .i64 (Go.bits .or .i64 (wrap64 ((wrap64 (Go.bits .and .u8 (rd bt299.2 7) 31)) * 65536)) (wrap64 ((wrap64 (rd bt299.2 8)) * 256))) (wrap64 (rd bt299.2 9))) - 1))) % 256))).bind fun t332 => (if (t332.length : Int) = 16 then ((laws_xor.f k t332 (([192, 192, 192, 192, 0, 0, 0, 0, 192, 192, 192, 192, 0, 0, 0, 0] : List Int))).bind fun t338 => (if 8 ≤ (t338.length : Int) then (if 2 ≤ (bt299.2.length : Int) then ((laws_xor.f k (bt299.2.drop 2) (t338.drop 8)).bind fun t353 => ((impl_Des.f (t338.take 8) t353 false).bind fun t356 => (if 8 ≤ (t332.length : Int) then ((laws_xor.f k (bt299.2.drop 2) (t332.drop 8)).bind fun t371 => ((impl_Des.f (t332.take 8) t371 false).bind fun t374 => (if (t356.length : Int) = 8 then (laws_FnDukpt.j0 k t311 t332 t338 t356 t374 ((t374.length : Int) != 8)) else (laws_FnDukpt.j0 k t311 t332 t338 t356 t374 true)))) else (none)))) else (none)) else (none))) else (some false))) else (none)) else (none)) else (none))) else (none))))) else (none)) else (none)) else (none)) else ((impl_DukptKey.f t296 bt299.2).bind fun t305 => (some ((t305.length : Int) == 0))))))
theorem laws_FnDukpt.mono_l : ∀ k, (∀ y0 y1 y2 y3 y4 y5, LeO (laws_FnDukpt.j0 k y0 y1 y2 y3 y4 y5) (laws_FnDukpt.j0 (k + 1) y0 y1 y2 y3 y4 y5))
  | 0 => fun _ _ _ _ _ _ r h => by simp [laws_FnDukpt.j0] at h
  | k + 1 => by
    have ih0 := laws_FnDukpt.mono_l k
    · intro y0 y1 y2 y3 y4 y5
      unfold laws_FnDukpt.j0
      repeat' first
      | (with_reducible exact ih0 _ _ _ _ _ _)
      | (with_reducible exact laws_cut.mono _ _ _ _)
      | (with_reducible exact laws_xor.mono _ _ _)
      | (with_reducible exact LeO.refl _)
      | (with_reducible exact LeO.none _)
      | (with_reducible refine LeO.ite ?_ ?_)
      | (with_reducible refine LeO.bind ?_ (fun _ => ?_))
      | exact ih0 _ _ _ _ _ _
      | exact laws_cut.mono _ _ _ _
      | exact laws_xor.mono _ _ _
      | exact LeO.none _
      | refine LeO.ite ?_ ?_
      | refine LeO.bind ?_ (fun _ => ?_)
theorem laws_FnDukpt.mono : ∀ a0 k, LeO (laws_FnDukpt.f k a0) (laws_FnDukpt.f (k + 1) a0) := by
  intro a0 k
  have ih0 := laws_FnDukpt.mono_l k
  unfold laws_FnDukpt.f
  repeat' first
      | (with_reducible exact ih0 _ _ _ _ _ _)
      | (with_reducible exact laws_cut.mono _ _ _ _)
      | (with_reducible exact laws_xor.mono _ _ _)
      | (with_reducible exact LeO.refl _)
      | (with_reducible exact LeO.none _)
      | (with_reducible refine LeO.ite ?_ ?_)
      | (with_reducible refine LeO.bind ?_ (fun _ => ?_))
      | exact ih0 _ _ _ _ _ _
      | exact laws_cut.mono _ _ _ _
      | exact laws_xor.mono _ _ _
      | exact LeO.none _
      | refine LeO.ite ?_ ?_
      | refine LeO.bind ?_ (fun _ => ?_)
def laws_FnDukpt.T7 : Bool × List (List Nat × List Nat) := (true, [([], []), ([0], [0]), ([1], [1]), ([2], [2]), ([3], [3]), ([4], [4]), ([], []), ([6], [6]), ([7], [7]), ([8], [8]), ([9], [9]), ([5, 10], [5, 10]), ([], []), ([12], [12]), ([13], [13]), ([14], [14]), ([11, 15], [11, 15]), ([16, 0, 1, 2, 3, 4, 5, 6, 7, 8, 9, 10, 11, 12, 13, 14, 15, 16], [16])])
def laws_FnDukpt.B7 : List Nat := [0, 1, 3, 7, 15, 31, 0, 64, 192, 448, 960, 2047, 0, 4096, 12288, 28672, 65535, 131071]
theorem laws_FnDukpt.tab7 : rtab .any (opsOf Tryd.f11 7) = laws_FnDukpt.T7 := by kernel_rfl
theorem laws_FnDukpt.bits7 : waitsOk laws_FnDukpt.T7.2 laws_FnDukpt.B7 = true := by kernel_rfl
def laws_FnDukpt.T21 : Bool × List (List Nat × List Nat) := (true, [([], []), ([0], [0]), ([], []), ([2], [2]), ([], []), ([4], [4]), ([3, 5], [3, 5]), ([1, 6, 6], [1, 6]), ([7, 7, 0, 1, 2, 3, 4, 5, 6, 7], [7])])
def laws_FnDukpt.B21 : List Nat := [0, 1, 0, 4, 0, 16, 60, 127, 255]
theorem laws_FnDukpt.tab21 : rtab .any (opsOf Tryd.f11 21) = laws_FnDukpt.T21 := by kernel_rfl
theorem laws_FnDukpt.bits21 : waitsOk laws_FnDukpt.T21.2 laws_FnDukpt.B21 = true := by kernel_rfl
def laws_FnDukpt.T22 : Bool × List (List Nat × List Nat) := (true, [([], []), ([0], [0]), ([], []), ([2], [2]), ([], []), ([4], [4]), ([3, 5], [3, 5]), ([1, 6, 6], [1, 6]), ([7, 7, 0, 1, 2, 3, 4, 5, 6, 7], [7])])
def laws_FnDukpt.B22 : List Nat := [0, 1, 0, 4, 0, 16, 60, 127, 255]
theorem laws_FnDukpt.tab22 : rtab .any (opsOf Tryd.f11 22) = laws_FnDukpt.T22 := by kernel_rfl
theorem laws_FnDukpt.bits22 : waitsOk laws_FnDukpt.T22.2 laws_FnDukpt.B22 = true := by kernel_rfl
def laws_FnDukpt.T25 : Bool × List (List Nat × List Nat) := (true, [([], []), ([], []), ([], []), ([2], [2]), ([1, 3], [1, 3]), ([], []), ([], []), ([6], [6]), ([5, 7, 4], [5, 7]), ([4, 8, 8], [4, 8]), ([0, 9, 9], [0, 9]), ([10, 10, 0, 1, 2, 3, 4, 5, 6, 7, 8, 9, 10], [10])])
def laws_FnDukpt.B25 : List Nat := [0, 0, 0, 4, 14, 0, 0, 64, 254, 510, 1023, 2047]
theorem laws_FnDukpt.tab25 : rtab .any (opsOf Tryd.f11 25) = laws_FnDukpt.T25 := by kernel_rfl
theorem laws_FnDukpt.bits25 : waitsOk laws_FnDukpt.T25.2 laws_FnDukpt.B25 = true := by kernel_rfl

end Go.Proofs.YtbjlpdfhjapbkaaDoor.LDuk
