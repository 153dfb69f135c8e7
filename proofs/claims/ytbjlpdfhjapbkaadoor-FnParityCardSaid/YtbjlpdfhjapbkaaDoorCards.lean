/-
  DERIVED. GIVEN WITH THE SEED: THE CARDS: each row of YtbjlpdfhjapbkaaDoorRows.lean that lists a variable, with what it lists TIED to the program's text (the seventh form; the later family's looks); each row that meets fmt, with fmt's text TOLD by the authors' own Lean function (tested against real Go, not proved from fmt's source: count such statements apart). THE CARD IS WHAT COUNTS. Prove the row's statement (the work); the ties are given (YtbjlpdfhjapbkaaDoorTie.lean); close each card by the builder's one call (the guide's Derived/Test/ToyasCard.lean, 'card_holds'). Laid BY PROGRAM, IN A SANDBOX (cutbox-door.mjs). By AI agents, Wed Nov 11 2026. No macro, syntax, notation, axiom, sorry.
-/
import Derived.Test.YtbjlpdfhjapbkaaDoorRows
import GoSem.ClaimSeven
namespace Go.Proofs.YtbjlpdfhjapbkaaDoor
namespace Rows

/-- THE TIED CARD OF 'laws.FnParity'. -/
def fnParityCard : Claim7 := { stood := { row := fnParityRow, standIns := [], harness := (true, "830fed241f6e836d4c46be86f3a2d05377209ba1c71408a362a04d94d49c933a"), looks := false }, kinds := [], alts := [], laidByText := true, laidKinds := [.widerDeep, .widerDeep, .widerDeep, .widerDeep, .widerDeep, .data, .data], laidTests := true, laidLooks := .later }
def FnParityCardSaid : Prop := Claim7.holds Tryd.pinned (.plain (OpenSpec.ofChange fnParitySpec)) fnParityCard

/-- THE TIED CARD OF 'laws.FnExactDes'. -/
def fnExactDesCard : Claim7 := { stood := { row := fnExactDesRow, standIns := [], harness := (true, "830fed241f6e836d4c46be86f3a2d05377209ba1c71408a362a04d94d49c933a"), looks := false }, kinds := [], alts := [], laidByText := true, laidKinds := [.widerDeep, .widerDeep, .widerDeep, .widerDeep, .widerDeep, .data, .data], laidTests := true, laidLooks := .later }
def FnExactDesCardSaid : Prop := Claim7.holds Tryd.pinned (.plain (OpenSpec.ofChange fnExactDesSpec)) fnExactDesCard

/-- THE TIED CARD OF 'laws.FnExactTdea'. -/
def fnExactTdeaCard : Claim7 := { stood := { row := fnExactTdeaRow, standIns := [], harness := (true, "830fed241f6e836d4c46be86f3a2d05377209ba1c71408a362a04d94d49c933a"), looks := false }, kinds := [], alts := [], laidByText := true, laidKinds := [.widerDeep, .widerDeep, .widerDeep, .widerDeep, .widerDeep, .data, .data], laidTests := true, laidLooks := .later }
def FnExactTdeaCardSaid : Prop := Claim7.holds Tryd.pinned (.plain (OpenSpec.ofChange fnExactTdeaSpec)) fnExactTdeaCard

/-- THE TIED CARD OF 'laws.FnExactCheckValue'. -/
def fnExactCheckValueCard : Claim7 := { stood := { row := fnExactCheckValueRow, standIns := [], harness := (true, "830fed241f6e836d4c46be86f3a2d05377209ba1c71408a362a04d94d49c933a"), looks := false }, kinds := [], alts := [], laidByText := true, laidKinds := [.widerDeep, .widerDeep, .widerDeep, .widerDeep, .widerDeep, .data, .data], laidTests := true, laidLooks := .later }
def FnExactCheckValueCardSaid : Prop := Claim7.holds Tryd.pinned (.plain (OpenSpec.ofChange fnExactCheckValueSpec)) fnExactCheckValueCard

/-- THE TIED CARD OF 'laws.FnExactRetailMac'. -/
def fnExactRetailMacCard : Claim7 := { stood := { row := fnExactRetailMacRow, standIns := [], harness := (true, "830fed241f6e836d4c46be86f3a2d05377209ba1c71408a362a04d94d49c933a"), looks := false }, kinds := [], alts := [], laidByText := true, laidKinds := [.widerDeep, .widerDeep, .widerDeep, .widerDeep, .widerDeep, .data, .data], laidTests := true, laidLooks := .later }
def FnExactRetailMacCardSaid : Prop := Claim7.holds Tryd.pinned (.plain (OpenSpec.ofChange fnExactRetailMacSpec)) fnExactRetailMacCard

/-- THE TIED CARD OF 'laws.FnExactDukptInitial'. -/
def fnExactDukptInitialCard : Claim7 := { stood := { row := fnExactDukptInitialRow, standIns := [], harness := (true, "830fed241f6e836d4c46be86f3a2d05377209ba1c71408a362a04d94d49c933a"), looks := false }, kinds := [], alts := [], laidByText := true, laidKinds := [.widerDeep, .widerDeep, .widerDeep, .widerDeep, .widerDeep, .data, .data, .data], laidTests := true, laidLooks := .later }
def FnExactDukptInitialCardSaid : Prop := Claim7.holds Tryd.pinned (.plain (OpenSpec.ofChange fnExactDukptInitialSpec)) fnExactDukptInitialCard

/-- THE TIED CARD OF 'laws.FnExactCbc'. -/
def fnExactCbcCard : Claim7 := { stood := { row := fnExactCbcRow, standIns := [], harness := (true, "830fed241f6e836d4c46be86f3a2d05377209ba1c71408a362a04d94d49c933a"), looks := false }, kinds := [], alts := [], laidByText := true, laidKinds := [.widerDeep, .widerDeep, .widerDeep, .widerDeep, .widerDeep, .data, .data], laidTests := true, laidLooks := .later }
def FnExactCbcCardSaid : Prop := Claim7.holds Tryd.pinned (.plain (OpenSpec.ofChange fnExactCbcSpec)) fnExactCbcCard

/-- THE TIED CARD OF 'laws.FnExactDukptKey'. -/
def fnExactDukptKeyCard : Claim7 := { stood := { row := fnExactDukptKeyRow, standIns := [], harness := (true, "830fed241f6e836d4c46be86f3a2d05377209ba1c71408a362a04d94d49c933a"), looks := false }, kinds := [], alts := [], laidByText := true, laidKinds := [.widerDeep, .widerDeep, .widerDeep, .widerDeep, .widerDeep, .data, .data, .data], laidTests := true, laidLooks := .later }
def FnExactDukptKeyCardSaid : Prop := Claim7.holds Tryd.pinned (.plain (OpenSpec.ofChange fnExactDukptKeySpec)) fnExactDukptKeyCard

/-- THE TIED CARD OF 'laws.FnDukpt'. -/
def fnDukptCard : Claim7 := { stood := { row := fnDukptRow, standIns := [], harness := (true, "830fed241f6e836d4c46be86f3a2d05377209ba1c71408a362a04d94d49c933a"), looks := false }, kinds := [], alts := [], laidByText := true, laidKinds := [.widerDeep, .widerDeep, .widerDeep, .widerDeep, .widerDeep, .data, .data, .data], laidTests := true, laidLooks := .later }
def FnDukptCardSaid : Prop := Claim7.holds Tryd.pinned (.plain (OpenSpec.ofChange fnDukptSpec)) fnDukptCard

/-- THE SECOND FORM's CARD OF 'laws.FnParity'. -/
def fnParityUptoCard : Claim7 := { stood := { row := fnParityUptoRow, standIns := [], harness := (true, "830fed241f6e836d4c46be86f3a2d05377209ba1c71408a362a04d94d49c933a"), looks := false }, kinds := [], alts := [], laidByText := true, laidKinds := [.widerDeep, .widerDeep, .widerDeep, .widerDeep, .widerDeep, .data, .data], laidTests := true, laidLooks := .later }
def FnParityUptoCardSaid : Prop := Claim7.holds Tryd.pinned (.plain (OpenSpec.upto fnParitySpec)) fnParityUptoCard

/-- THE SECOND FORM's CARD OF 'laws.FnExactDes'. -/
def fnExactDesUptoCard : Claim7 := { stood := { row := fnExactDesUptoRow, standIns := [], harness := (true, "830fed241f6e836d4c46be86f3a2d05377209ba1c71408a362a04d94d49c933a"), looks := false }, kinds := [], alts := [], laidByText := true, laidKinds := [.widerDeep, .widerDeep, .widerDeep, .widerDeep, .widerDeep, .data, .data], laidTests := true, laidLooks := .later }
def FnExactDesUptoCardSaid : Prop := Claim7.holds Tryd.pinned (.plain (OpenSpec.upto fnExactDesSpec)) fnExactDesUptoCard

/-- THE SECOND FORM's CARD OF 'laws.FnExactTdea'. -/
def fnExactTdeaUptoCard : Claim7 := { stood := { row := fnExactTdeaUptoRow, standIns := [], harness := (true, "830fed241f6e836d4c46be86f3a2d05377209ba1c71408a362a04d94d49c933a"), looks := false }, kinds := [], alts := [], laidByText := true, laidKinds := [.widerDeep, .widerDeep, .widerDeep, .widerDeep, .widerDeep, .data, .data], laidTests := true, laidLooks := .later }
def FnExactTdeaUptoCardSaid : Prop := Claim7.holds Tryd.pinned (.plain (OpenSpec.upto fnExactTdeaSpec)) fnExactTdeaUptoCard

/-- THE SECOND FORM's CARD OF 'laws.FnExactCheckValue'. -/
def fnExactCheckValueUptoCard : Claim7 := { stood := { row := fnExactCheckValueUptoRow, standIns := [], harness := (true, "830fed241f6e836d4c46be86f3a2d05377209ba1c71408a362a04d94d49c933a"), looks := false }, kinds := [], alts := [], laidByText := true, laidKinds := [.widerDeep, .widerDeep, .widerDeep, .widerDeep, .widerDeep, .data, .data], laidTests := true, laidLooks := .later }
def FnExactCheckValueUptoCardSaid : Prop := Claim7.holds Tryd.pinned (.plain (OpenSpec.upto fnExactCheckValueSpec)) fnExactCheckValueUptoCard

/-- THE SECOND FORM's CARD OF 'laws.FnExactRetailMac'. -/
def fnExactRetailMacUptoCard : Claim7 := { stood := { row := fnExactRetailMacUptoRow, standIns := [], harness := (true, "830fed241f6e836d4c46be86f3a2d05377209ba1c71408a362a04d94d49c933a"), looks := false }, kinds := [], alts := [], laidByText := true, laidKinds := [.widerDeep, .widerDeep, .widerDeep, .widerDeep, .widerDeep, .data, .data], laidTests := true, laidLooks := .later }
def FnExactRetailMacUptoCardSaid : Prop := Claim7.holds Tryd.pinned (.plain (OpenSpec.upto fnExactRetailMacSpec)) fnExactRetailMacUptoCard

/-- THE SECOND FORM's CARD OF 'laws.FnExactDukptInitial'. -/
def fnExactDukptInitialUptoCard : Claim7 := { stood := { row := fnExactDukptInitialUptoRow, standIns := [], harness := (true, "830fed241f6e836d4c46be86f3a2d05377209ba1c71408a362a04d94d49c933a"), looks := false }, kinds := [], alts := [], laidByText := true, laidKinds := [.widerDeep, .widerDeep, .widerDeep, .widerDeep, .widerDeep, .data, .data, .data], laidTests := true, laidLooks := .later }
def FnExactDukptInitialUptoCardSaid : Prop := Claim7.holds Tryd.pinned (.plain (OpenSpec.upto fnExactDukptInitialSpec)) fnExactDukptInitialUptoCard

/-- THE SECOND FORM's CARD OF 'laws.FnExactCbc'. -/
def fnExactCbcUptoCard : Claim7 := { stood := { row := fnExactCbcUptoRow, standIns := [], harness := (true, "830fed241f6e836d4c46be86f3a2d05377209ba1c71408a362a04d94d49c933a"), looks := false }, kinds := [], alts := [], laidByText := true, laidKinds := [.widerDeep, .widerDeep, .widerDeep, .widerDeep, .widerDeep, .data, .data], laidTests := true, laidLooks := .later }
def FnExactCbcUptoCardSaid : Prop := Claim7.holds Tryd.pinned (.plain (OpenSpec.upto fnExactCbcSpec)) fnExactCbcUptoCard

/-- THE SECOND FORM's CARD OF 'laws.FnExactDukptKey'. -/
def fnExactDukptKeyUptoCard : Claim7 := { stood := { row := fnExactDukptKeyUptoRow, standIns := [], harness := (true, "830fed241f6e836d4c46be86f3a2d05377209ba1c71408a362a04d94d49c933a"), looks := false }, kinds := [], alts := [], laidByText := true, laidKinds := [.widerDeep, .widerDeep, .widerDeep, .widerDeep, .widerDeep, .data, .data, .data], laidTests := true, laidLooks := .later }
def FnExactDukptKeyUptoCardSaid : Prop := Claim7.holds Tryd.pinned (.plain (OpenSpec.upto fnExactDukptKeySpec)) fnExactDukptKeyUptoCard

/-- THE SECOND FORM's CARD OF 'laws.FnDukpt'. -/
def fnDukptUptoCard : Claim7 := { stood := { row := fnDukptUptoRow, standIns := [], harness := (true, "830fed241f6e836d4c46be86f3a2d05377209ba1c71408a362a04d94d49c933a"), looks := false }, kinds := [], alts := [], laidByText := true, laidKinds := [.widerDeep, .widerDeep, .widerDeep, .widerDeep, .widerDeep, .data, .data, .data], laidTests := true, laidLooks := .later }
def FnDukptUptoCardSaid : Prop := Claim7.holds Tryd.pinned (.plain (OpenSpec.upto fnDukptSpec)) fnDukptUptoCard
end Rows
end Go.Proofs.YtbjlpdfhjapbkaaDoor
