/-
  No cell of these rows narrows 'for every input' (looked for: loops, veiled, ifaces, maps, wideKeys, modest, calm, conditions, laid).
  DERIVED. THE GIVEN ROWS OF THIS SEAT. 6 by the template 'for every input the law returns true; each argument reads behind the call as it read before'; 0 by the template 'total and deterministic' (their statements: YtiejallnkgllnaaTotals.lean).
  GIVEN WITH THE SEED: the statements are not yours to turn. If you find one false, say at which input.
  Laid BY PROGRAM, IN A SANDBOX (cutbox-rows.mjs): the forced cells as the released guide's own fill.sh prints them over the translation 18b70935e4946677… (all of the seat's roots in one cut). By AI agents, Wed Nov 11 2026. No macro, syntax, notation, axiom, sorry.
-/
import Derived.Test.YtiejallnkgllnaaChecked
import GoSem.Claim
import GoSem.ClaimJoined
import GoSem.ClaimMapViews
import Derived.JoinedTies
import Derived.KernelRfl
namespace Go.Proofs.Ytiejallnkgllnaa
/- THE CELL 'sum', in the pinned program and in every row, IS THE sha256 OF THE DUMP (.gsa) THAT YtiejallnkgllnaaProg.lean LOADS. Nothing in Lean hashes anything: it is a label: what it is worth is what the hold of that sum in a sandbox is worth. -/
noncomputable def Try.pinned : Pinned := { name := "ytiejallnkgllnaa", sum := "18b70935e49466771a0b0ebe07f421f7b5164272ee174b76c844088a30977abb", checked := Try.checked }
namespace Rows
def none {H : Type} : Left H := { results := [], args := [] }

/-- 'laws.FnExactRouteOf': WHATEVER THE INPUT: true; the input reads as it did. -/
def fnExactRouteOfSpec : ChangeSpec := { name := "fnExactRouteOf", fn := fun _ => fun
  | [d1, d2] => { results := [.lit (.bool true)], args := [d1, d2] }
  | _ => none }
def fnExactRouteOfRow : OpenClaim := { program := "ytiejallnkgllnaa", sum := "18b70935e49466771a0b0ebe07f421f7b5164272ee174b76c844088a30977abb", func := "loop.example/s01728/laws.FnExactRouteOf", spec := "fnExactRouteOf", apart := false }
def FnExactRouteOfSaid : Prop := fnExactRouteOfRow.holds Try.pinned (OpenSpec.ofChange fnExactRouteOfSpec)

/-- ITS FALSE NEIGHBOUR: 'it returns false'. Refute it at one input. -/
def fnExactRouteOfWrong : ChangeSpec := { name := "fnExactRouteOf", fn := fun _ => fun
  | [d1, d2] => { results := [.lit (.bool false)], args := [d1, d2] }
  | _ => none }
def FnExactRouteOfWrongFalsely : Prop := fnExactRouteOfRow.holds Try.pinned (OpenSpec.ofChange fnExactRouteOfWrong)

/-- 'laws.FnExactReadPin': WHATEVER THE INPUT: true; the input reads as it did. -/
def fnExactReadPinSpec : ChangeSpec := { name := "fnExactReadPin", fn := fun _ => fun
  | [d1, d2, d3] => { results := [.lit (.bool true)], args := [d1, d2, d3] }
  | _ => none }
def fnExactReadPinRow : OpenClaim := { program := "ytiejallnkgllnaa", sum := "18b70935e49466771a0b0ebe07f421f7b5164272ee174b76c844088a30977abb", func := "loop.example/s01728/laws.FnExactReadPin", spec := "fnExactReadPin", unfollowed := true, recurses := true, apart := false }
def FnExactReadPinSaid : Prop := fnExactReadPinRow.holds Try.pinned (OpenSpec.ofChange fnExactReadPinSpec)

/-- ITS FALSE NEIGHBOUR: 'it returns false'. Refute it at one input. -/
def fnExactReadPinWrong : ChangeSpec := { name := "fnExactReadPin", fn := fun _ => fun
  | [d1, d2, d3] => { results := [.lit (.bool false)], args := [d1, d2, d3] }
  | _ => none }
def FnExactReadPinWrongFalsely : Prop := fnExactReadPinRow.holds Try.pinned (OpenSpec.ofChange fnExactReadPinWrong)

/-- 'laws.FnExactMakePin': WHATEVER THE INPUT: true; the input reads as it did. -/
def fnExactMakePinSpec : ChangeSpec := { name := "fnExactMakePin", fn := fun _ => fun
  | [d1, d2, d3, d4] => { results := [.lit (.bool true)], args := [d1, d2, d3, d4] }
  | _ => none }
def fnExactMakePinRow : OpenClaim := { program := "ytiejallnkgllnaa", sum := "18b70935e49466771a0b0ebe07f421f7b5164272ee174b76c844088a30977abb", func := "loop.example/s01728/laws.FnExactMakePin", spec := "fnExactMakePin", apart := false }
def FnExactMakePinSaid : Prop := fnExactMakePinRow.holds Try.pinned (OpenSpec.ofChange fnExactMakePinSpec)

/-- ITS FALSE NEIGHBOUR: 'it returns false'. Refute it at one input. -/
def fnExactMakePinWrong : ChangeSpec := { name := "fnExactMakePin", fn := fun _ => fun
  | [d1, d2, d3, d4] => { results := [.lit (.bool false)], args := [d1, d2, d3, d4] }
  | _ => none }
def FnExactMakePinWrongFalsely : Prop := fnExactMakePinRow.holds Try.pinned (OpenSpec.ofChange fnExactMakePinWrong)

/-- 'laws.FnExactEncode': WHATEVER THE INPUT: true; the input reads as it did. -/
def fnExactEncodeSpec : ChangeSpec := { name := "fnExactEncode", fn := fun _ => fun
  | [d] => { results := [.lit (.bool true)], args := [d] }
  | _ => none }
def fnExactEncodeRow : OpenClaim := { program := "ytiejallnkgllnaa", sum := "18b70935e49466771a0b0ebe07f421f7b5164272ee174b76c844088a30977abb", func := "loop.example/s01728/laws.FnExactEncode", spec := "fnExactEncode", unfollowed := true, recurses := true, apart := false }
def FnExactEncodeSaid : Prop := fnExactEncodeRow.holds Try.pinned (OpenSpec.ofChange fnExactEncodeSpec)

/-- ITS FALSE NEIGHBOUR: 'it returns false'. Refute it at one input. -/
def fnExactEncodeWrong : ChangeSpec := { name := "fnExactEncode", fn := fun _ => fun
  | [d] => { results := [.lit (.bool false)], args := [d] }
  | _ => none }
def FnExactEncodeWrongFalsely : Prop := fnExactEncodeRow.holds Try.pinned (OpenSpec.ofChange fnExactEncodeWrong)

/-- 'laws.FnPins': WHATEVER THE INPUT: true; the input reads as it did. -/
def fnPinsSpec : ChangeSpec := { name := "fnPins", fn := fun _ => fun
  | [d] => { results := [.lit (.bool true)], args := [d] }
  | _ => none }
def fnPinsRow : OpenClaim := { program := "ytiejallnkgllnaa", sum := "18b70935e49466771a0b0ebe07f421f7b5164272ee174b76c844088a30977abb", func := "loop.example/s01728/laws.FnPins", spec := "fnPins", unfollowed := true, recurses := true, apart := false }
def FnPinsSaid : Prop := fnPinsRow.holds Try.pinned (OpenSpec.ofChange fnPinsSpec)

/-- ITS FALSE NEIGHBOUR: 'it returns false'. Refute it at one input. -/
def fnPinsWrong : ChangeSpec := { name := "fnPins", fn := fun _ => fun
  | [d] => { results := [.lit (.bool false)], args := [d] }
  | _ => none }
def FnPinsWrongFalsely : Prop := fnPinsRow.holds Try.pinned (OpenSpec.ofChange fnPinsWrong)

/-- 'laws.FnIso': WHATEVER THE INPUT: true; the input reads as it did. -/
def fnIsoSpec : ChangeSpec := { name := "fnIso", fn := fun _ => fun
  | [d] => { results := [.lit (.bool true)], args := [d] }
  | _ => none }
def fnIsoRow : OpenClaim := { program := "ytiejallnkgllnaa", sum := "18b70935e49466771a0b0ebe07f421f7b5164272ee174b76c844088a30977abb", func := "loop.example/s01728/laws.FnIso", spec := "fnIso", unfollowed := true, recurses := true, apart := false }
def FnIsoSaid : Prop := fnIsoRow.holds Try.pinned (OpenSpec.ofChange fnIsoSpec)

/-- ITS FALSE NEIGHBOUR: 'it returns false'. Refute it at one input. -/
def fnIsoWrong : ChangeSpec := { name := "fnIso", fn := fun _ => fun
  | [d] => { results := [.lit (.bool false)], args := [d] }
  | _ => none }
def FnIsoWrongFalsely : Prop := fnIsoRow.holds Try.pinned (OpenSpec.ofChange fnIsoWrong)

/- THE SECOND FORM. 'bulk': how many values and letters a reading holds, each counted each time it is reached (what is shared counts as often as it is met; a slice's spare places count too). A statement '..UptoSaid' is the law's where the arguments, and the package variables that the reading takes, are together of bulk at most 1048576: NARROWER than '..Said'. Prove '..Said' where nothing that the law and all that it calls make is longer than what came in: it says more and counts as full. Else prove '..UptoSaid'. A law counts once. -/
mutual
def uptoBulk {H : Type} : DataW H → Nat
  | .lit (.string bytes) => bytes.length + 1
  | .lit _ => 1
  | .nil => 1
  | .ptr d => uptoBulk d + 1
  | .slice elems spare => uptoBulkAll elems + uptoBulkAll spare + 1
  | .agg parts => uptoBulkAll parts + 1
  | .iface _ d => uptoBulk d + 1
  | .map entries => uptoBulkEntries entries + 1
  | .held _ => 1
def uptoBulkAll {H : Type} : List (DataW H) → Nat
  | [] => 0
  | d :: r => uptoBulk d + uptoBulkAll r
def uptoBulkEntries {H : Type} : List (Lit × DataW H) → Nat
  | [] => 0
  | x :: r => uptoBulkEntry x + uptoBulkEntries r
def uptoBulkEntry {H : Type} : Lit × DataW H → Nat
  | (.string bytes, d) => bytes.length + uptoBulk d + 1
  | (_, d) => uptoBulk d + 1
 end
def uptoSmall : (H : Type) → List (DataW H) → Bool := fun _ ds => decide (uptoBulkAll ds ≤ 1048576)
def OpenSpec.upto (s : _root_.Go.ChangeSpec) : _root_.Go.OpenSpec := { _root_.Go.OpenSpec.ofChange s with cond := some uptoSmall }

/-- 'laws.FnExactRouteOf', WHERE WHAT IT READS IS OF BULK AT MOST 1048576: true; the input reads as it did. -/
def fnExactRouteOfUptoRow : OpenClaim := { program := "ytiejallnkgllnaa", sum := "18b70935e49466771a0b0ebe07f421f7b5164272ee174b76c844088a30977abb", func := "loop.example/s01728/laws.FnExactRouteOf", spec := "fnExactRouteOf", apart := false, narrowed := true }
def FnExactRouteOfUptoSaid : Prop := fnExactRouteOfUptoRow.holds Try.pinned (OpenSpec.upto fnExactRouteOfSpec)

/-- 'laws.FnExactReadPin', WHERE WHAT IT READS IS OF BULK AT MOST 1048576: true; the input reads as it did. -/
def fnExactReadPinUptoRow : OpenClaim := { program := "ytiejallnkgllnaa", sum := "18b70935e49466771a0b0ebe07f421f7b5164272ee174b76c844088a30977abb", func := "loop.example/s01728/laws.FnExactReadPin", spec := "fnExactReadPin", unfollowed := true, recurses := true, apart := false, narrowed := true }
def FnExactReadPinUptoSaid : Prop := fnExactReadPinUptoRow.holds Try.pinned (OpenSpec.upto fnExactReadPinSpec)

/-- 'laws.FnExactMakePin', WHERE WHAT IT READS IS OF BULK AT MOST 1048576: true; the input reads as it did. -/
def fnExactMakePinUptoRow : OpenClaim := { program := "ytiejallnkgllnaa", sum := "18b70935e49466771a0b0ebe07f421f7b5164272ee174b76c844088a30977abb", func := "loop.example/s01728/laws.FnExactMakePin", spec := "fnExactMakePin", apart := false, narrowed := true }
def FnExactMakePinUptoSaid : Prop := fnExactMakePinUptoRow.holds Try.pinned (OpenSpec.upto fnExactMakePinSpec)

/-- 'laws.FnExactEncode', WHERE WHAT IT READS IS OF BULK AT MOST 1048576: true; the input reads as it did. -/
def fnExactEncodeUptoRow : OpenClaim := { program := "ytiejallnkgllnaa", sum := "18b70935e49466771a0b0ebe07f421f7b5164272ee174b76c844088a30977abb", func := "loop.example/s01728/laws.FnExactEncode", spec := "fnExactEncode", unfollowed := true, recurses := true, apart := false, narrowed := true }
def FnExactEncodeUptoSaid : Prop := fnExactEncodeUptoRow.holds Try.pinned (OpenSpec.upto fnExactEncodeSpec)

/-- 'laws.FnPins', WHERE WHAT IT READS IS OF BULK AT MOST 1048576: true; the input reads as it did. -/
def fnPinsUptoRow : OpenClaim := { program := "ytiejallnkgllnaa", sum := "18b70935e49466771a0b0ebe07f421f7b5164272ee174b76c844088a30977abb", func := "loop.example/s01728/laws.FnPins", spec := "fnPins", unfollowed := true, recurses := true, apart := false, narrowed := true }
def FnPinsUptoSaid : Prop := fnPinsUptoRow.holds Try.pinned (OpenSpec.upto fnPinsSpec)

/-- 'laws.FnIso', WHERE WHAT IT READS IS OF BULK AT MOST 1048576: true; the input reads as it did. -/
def fnIsoUptoRow : OpenClaim := { program := "ytiejallnkgllnaa", sum := "18b70935e49466771a0b0ebe07f421f7b5164272ee174b76c844088a30977abb", func := "loop.example/s01728/laws.FnIso", spec := "fnIso", unfollowed := true, recurses := true, apart := false, narrowed := true }
def FnIsoUptoSaid : Prop := fnIsoUptoRow.holds Try.pinned (OpenSpec.upto fnIsoSpec)

end Rows
end Go.Proofs.Ytiejallnkgllnaa
