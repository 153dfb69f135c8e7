/-
  DERIVED. GIVEN WITH THE SEED: THE PROGRAM's TIES (one call each: nine closed facts by the kernel) AND EACH ROW's TIE, after the 31st guide's Derived/Test/Toyas{Tie, Card}.lean. No idea stands in it: it is a product of the set-up. Laid BY PROGRAM, IN A SANDBOX (cutbox-door.mjs). By AI agents, Wed Nov 11 2026. No macro, syntax, notation, axiom, sorry.
-/
import Derived.Test.YtbjlpdfhjapbkaaDoorRows
import Derived.LaidByTextLater
import Derived.SevenTiedAt
import Derived.LaidSub
import Derived.LaidOnce
namespace Go.Proofs.YtbjlpdfhjapbkaaDoor
open Go
set_option maxRecDepth 100000
theorem seatTie1 : Tryd.prog.laidByTextLater [("loop.example/s01728/impl.tableIP", Rows.laid_loop_example_s01728_impl_tableIP), ("loop.example/s01728/impl.tableE", Rows.laid_loop_example_s01728_impl_tableE), ("loop.example/s01728/impl.tableP", Rows.laid_loop_example_s01728_impl_tableP), ("loop.example/s01728/impl.tablePC1", Rows.laid_loop_example_s01728_impl_tablePC1), ("loop.example/s01728/impl.tablePC2", Rows.laid_loop_example_s01728_impl_tablePC2), ("loop.example/s01728/impl.turns", Rows.laid_loop_example_s01728_impl_turns), ("loop.example/s01728/impl.boxes", Rows.laid_loop_example_s01728_impl_boxes)] [.widerDeep, .widerDeep, .widerDeep, .widerDeep, .widerDeep, .data, .data] true :=
  Program.laidByTextLater_by_one 49 8 65 (by kernel_rfl) (by kernel_rfl) (by kernel_rfl) (by kernel_rfl) (by kernel_rfl) (by kernel_rfl) (fun _ _ => by kernel_rfl)
theorem seatTie2 : Tryd.prog.laidByTextLater [("loop.example/s01728/impl.tableIP", Rows.laid_loop_example_s01728_impl_tableIP), ("loop.example/s01728/impl.tableE", Rows.laid_loop_example_s01728_impl_tableE), ("loop.example/s01728/impl.tableP", Rows.laid_loop_example_s01728_impl_tableP), ("loop.example/s01728/impl.tablePC1", Rows.laid_loop_example_s01728_impl_tablePC1), ("loop.example/s01728/impl.tablePC2", Rows.laid_loop_example_s01728_impl_tablePC2), ("loop.example/s01728/impl.turns", Rows.laid_loop_example_s01728_impl_turns), ("loop.example/s01728/impl.boxes", Rows.laid_loop_example_s01728_impl_boxes), ("loop.example/s01728/impl.maskHalf", Rows.laid_loop_example_s01728_impl_maskHalf)] [.widerDeep, .widerDeep, .widerDeep, .widerDeep, .widerDeep, .data, .data, .data] true :=
  Program.laidByTextLater_by_one 49 8 65 (by kernel_rfl) (by kernel_rfl) (by kernel_rfl) (by kernel_rfl) (by kernel_rfl) (by kernel_rfl) (fun _ _ => by kernel_rfl)
theorem noOwnUnsafe : Tryd.pinned.checked.prog.headLifts.contains "ownunsafe" = false := by kernel_rfl
theorem tie : Tryd.prog.laidByTextLater [("loop.example/s01728/impl.tableIP", Rows.laid_loop_example_s01728_impl_tableIP), ("loop.example/s01728/impl.tableE", Rows.laid_loop_example_s01728_impl_tableE), ("loop.example/s01728/impl.tableP", Rows.laid_loop_example_s01728_impl_tableP), ("loop.example/s01728/impl.tablePC1", Rows.laid_loop_example_s01728_impl_tablePC1), ("loop.example/s01728/impl.tablePC2", Rows.laid_loop_example_s01728_impl_tablePC2), ("loop.example/s01728/impl.turns", Rows.laid_loop_example_s01728_impl_turns), ("loop.example/s01728/impl.boxes", Rows.laid_loop_example_s01728_impl_boxes)] [.widerDeep, .widerDeep, .widerDeep, .widerDeep, .widerDeep, .data, .data] true :=
  Program.laidByTextLater.sub seatTie1 ["loop.example/s01728/impl.tableIP", "loop.example/s01728/impl.tableE", "loop.example/s01728/impl.tableP", "loop.example/s01728/impl.tablePC1", "loop.example/s01728/impl.tablePC2", "loop.example/s01728/impl.turns", "loop.example/s01728/impl.boxes"] (by kernel_rfl) (by kernel_rfl)
theorem fnParity_row_tie : Rows.fnParityRow.laidByTextAt .later Tryd.pinned [.widerDeep, .widerDeep, .widerDeep, .widerDeep, .widerDeep, .data, .data] true :=
  OpenClaim.laidByTextAt_later rfl rfl tie noOwnUnsafe
theorem fnExactDes_row_tie : Rows.fnExactDesRow.laidByTextAt .later Tryd.pinned [.widerDeep, .widerDeep, .widerDeep, .widerDeep, .widerDeep, .data, .data] true :=
  OpenClaim.laidByTextAt_later rfl rfl tie noOwnUnsafe
theorem fnExactTdea_row_tie : Rows.fnExactTdeaRow.laidByTextAt .later Tryd.pinned [.widerDeep, .widerDeep, .widerDeep, .widerDeep, .widerDeep, .data, .data] true :=
  OpenClaim.laidByTextAt_later rfl rfl tie noOwnUnsafe
theorem fnExactCheckValue_row_tie : Rows.fnExactCheckValueRow.laidByTextAt .later Tryd.pinned [.widerDeep, .widerDeep, .widerDeep, .widerDeep, .widerDeep, .data, .data] true :=
  OpenClaim.laidByTextAt_later rfl rfl tie noOwnUnsafe
theorem fnExactRetailMac_row_tie : Rows.fnExactRetailMacRow.laidByTextAt .later Tryd.pinned [.widerDeep, .widerDeep, .widerDeep, .widerDeep, .widerDeep, .data, .data] true :=
  OpenClaim.laidByTextAt_later rfl rfl tie noOwnUnsafe
theorem fnExactCbc_row_tie : Rows.fnExactCbcRow.laidByTextAt .later Tryd.pinned [.widerDeep, .widerDeep, .widerDeep, .widerDeep, .widerDeep, .data, .data] true :=
  OpenClaim.laidByTextAt_later rfl rfl tie noOwnUnsafe
theorem tie2 : Tryd.prog.laidByTextLater [("loop.example/s01728/impl.tableIP", Rows.laid_loop_example_s01728_impl_tableIP), ("loop.example/s01728/impl.tableE", Rows.laid_loop_example_s01728_impl_tableE), ("loop.example/s01728/impl.tableP", Rows.laid_loop_example_s01728_impl_tableP), ("loop.example/s01728/impl.tablePC1", Rows.laid_loop_example_s01728_impl_tablePC1), ("loop.example/s01728/impl.tablePC2", Rows.laid_loop_example_s01728_impl_tablePC2), ("loop.example/s01728/impl.turns", Rows.laid_loop_example_s01728_impl_turns), ("loop.example/s01728/impl.boxes", Rows.laid_loop_example_s01728_impl_boxes), ("loop.example/s01728/impl.maskHalf", Rows.laid_loop_example_s01728_impl_maskHalf)] [.widerDeep, .widerDeep, .widerDeep, .widerDeep, .widerDeep, .data, .data, .data] true :=
  Program.laidByTextLater.sub seatTie2 ["loop.example/s01728/impl.tableIP", "loop.example/s01728/impl.tableE", "loop.example/s01728/impl.tableP", "loop.example/s01728/impl.tablePC1", "loop.example/s01728/impl.tablePC2", "loop.example/s01728/impl.turns", "loop.example/s01728/impl.boxes", "loop.example/s01728/impl.maskHalf"] (by kernel_rfl) (by kernel_rfl)
theorem fnExactDukptInitial_row_tie : Rows.fnExactDukptInitialRow.laidByTextAt .later Tryd.pinned [.widerDeep, .widerDeep, .widerDeep, .widerDeep, .widerDeep, .data, .data, .data] true :=
  OpenClaim.laidByTextAt_later rfl rfl tie2 noOwnUnsafe
theorem fnExactDukptKey_row_tie : Rows.fnExactDukptKeyRow.laidByTextAt .later Tryd.pinned [.widerDeep, .widerDeep, .widerDeep, .widerDeep, .widerDeep, .data, .data, .data] true :=
  OpenClaim.laidByTextAt_later rfl rfl tie2 noOwnUnsafe
theorem fnDukpt_row_tie : Rows.fnDukptRow.laidByTextAt .later Tryd.pinned [.widerDeep, .widerDeep, .widerDeep, .widerDeep, .widerDeep, .data, .data, .data] true :=
  OpenClaim.laidByTextAt_later rfl rfl tie2 noOwnUnsafe
theorem fnParityUpto_row_tie : Rows.fnParityUptoRow.laidByTextAt .later Tryd.pinned [.widerDeep, .widerDeep, .widerDeep, .widerDeep, .widerDeep, .data, .data] true :=
  OpenClaim.laidByTextAt_later rfl rfl tie noOwnUnsafe
theorem fnExactDesUpto_row_tie : Rows.fnExactDesUptoRow.laidByTextAt .later Tryd.pinned [.widerDeep, .widerDeep, .widerDeep, .widerDeep, .widerDeep, .data, .data] true :=
  OpenClaim.laidByTextAt_later rfl rfl tie noOwnUnsafe
theorem fnExactTdeaUpto_row_tie : Rows.fnExactTdeaUptoRow.laidByTextAt .later Tryd.pinned [.widerDeep, .widerDeep, .widerDeep, .widerDeep, .widerDeep, .data, .data] true :=
  OpenClaim.laidByTextAt_later rfl rfl tie noOwnUnsafe
theorem fnExactCheckValueUpto_row_tie : Rows.fnExactCheckValueUptoRow.laidByTextAt .later Tryd.pinned [.widerDeep, .widerDeep, .widerDeep, .widerDeep, .widerDeep, .data, .data] true :=
  OpenClaim.laidByTextAt_later rfl rfl tie noOwnUnsafe
theorem fnExactRetailMacUpto_row_tie : Rows.fnExactRetailMacUptoRow.laidByTextAt .later Tryd.pinned [.widerDeep, .widerDeep, .widerDeep, .widerDeep, .widerDeep, .data, .data] true :=
  OpenClaim.laidByTextAt_later rfl rfl tie noOwnUnsafe
theorem fnExactDukptInitialUpto_row_tie : Rows.fnExactDukptInitialUptoRow.laidByTextAt .later Tryd.pinned [.widerDeep, .widerDeep, .widerDeep, .widerDeep, .widerDeep, .data, .data, .data] true :=
  OpenClaim.laidByTextAt_later rfl rfl tie2 noOwnUnsafe
theorem fnExactCbcUpto_row_tie : Rows.fnExactCbcUptoRow.laidByTextAt .later Tryd.pinned [.widerDeep, .widerDeep, .widerDeep, .widerDeep, .widerDeep, .data, .data] true :=
  OpenClaim.laidByTextAt_later rfl rfl tie noOwnUnsafe
theorem fnExactDukptKeyUpto_row_tie : Rows.fnExactDukptKeyUptoRow.laidByTextAt .later Tryd.pinned [.widerDeep, .widerDeep, .widerDeep, .widerDeep, .widerDeep, .data, .data, .data] true :=
  OpenClaim.laidByTextAt_later rfl rfl tie2 noOwnUnsafe
theorem fnDukptUpto_row_tie : Rows.fnDukptUptoRow.laidByTextAt .later Tryd.pinned [.widerDeep, .widerDeep, .widerDeep, .widerDeep, .widerDeep, .data, .data, .data] true :=
  OpenClaim.laidByTextAt_later rfl rfl tie2 noOwnUnsafe
end Go.Proofs.YtbjlpdfhjapbkaaDoor
