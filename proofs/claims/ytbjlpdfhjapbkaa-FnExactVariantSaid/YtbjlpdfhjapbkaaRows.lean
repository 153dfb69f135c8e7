/-
  No cell of these rows narrows 'for every input' (looked for: loops, veiled, ifaces, maps, wideKeys, modest, calm, conditions, laid).
  DERIVED. THE GIVEN ROWS OF THIS SEAT. 3 by the template 'for every input the law returns true; each argument reads behind the call as it read before'; 0 by the template 'total and deterministic' (their statements: YtbjlpdfhjapbkaaTotals.lean).
  GIVEN WITH THE SEED: the statements are not yours to turn. If you find one false, say at which input.
  Laid BY PROGRAM, IN A SANDBOX (cutbox-rows.mjs): the forced cells as the released guide's own fill.sh prints them over the translation 4cee29e0870679d3… (all of the seat's roots in one cut). By AI agents, Wed Nov 11 2026. No macro, syntax, notation, axiom, sorry.
-/
import Derived.Test.YtbjlpdfhjapbkaaChecked
import GoSem.Claim
import GoSem.ClaimJoined
import GoSem.ClaimMapViews
import Derived.JoinedTies
import Derived.KernelRfl
namespace Go.Proofs.Ytbjlpdfhjapbkaa
/- THE CELL 'sum', in the pinned program and in every row, IS THE sha256 OF THE DUMP (.gsa) THAT YtbjlpdfhjapbkaaProg.lean LOADS. Nothing in Lean hashes anything: it is a label: what it is worth is what the hold of that sum in a sandbox is worth. -/
noncomputable def Try.pinned : Pinned := { name := "ytbjlpdfhjapbkaa", sum := "4cee29e0870679d3c0577de872220f052c1ffc70a23c2816ccf9773affbf1469", checked := Try.checked }
namespace Rows
def none {H : Type} : Left H := { results := [], args := [] }

/-- 'laws.FnExactConstants': WHATEVER THE INPUT: true; the input reads as it did. -/
def fnExactConstantsSpec : ChangeSpec := { name := "fnExactConstants", fn := fun _ => fun
  | [] => { results := [.lit (.bool true)], args := [] }
  | _ => none }
def fnExactConstantsRow : OpenClaim := { program := "ytbjlpdfhjapbkaa", sum := "4cee29e0870679d3c0577de872220f052c1ffc70a23c2816ccf9773affbf1469", func := "loop.example/s01728/laws.FnExactConstants", spec := "fnExactConstants", apart := false }
def FnExactConstantsSaid : Prop := fnExactConstantsRow.holds Try.pinned (OpenSpec.ofChange fnExactConstantsSpec)

/-- ITS FALSE NEIGHBOUR: 'it returns false'. Refute it at one input. -/
def fnExactConstantsWrong : ChangeSpec := { name := "fnExactConstants", fn := fun _ => fun
  | [] => { results := [.lit (.bool false)], args := [] }
  | _ => none }
def FnExactConstantsWrongFalsely : Prop := fnExactConstantsRow.holds Try.pinned (OpenSpec.ofChange fnExactConstantsWrong)

/-- 'laws.FnExactOddParity': WHATEVER THE INPUT: true; the input reads as it did. -/
def fnExactOddParitySpec : ChangeSpec := { name := "fnExactOddParity", fn := fun _ => fun
  | [d] => { results := [.lit (.bool true)], args := [d] }
  | _ => none }
def fnExactOddParityRow : OpenClaim := { program := "ytbjlpdfhjapbkaa", sum := "4cee29e0870679d3c0577de872220f052c1ffc70a23c2816ccf9773affbf1469", func := "loop.example/s01728/laws.FnExactOddParity", spec := "fnExactOddParity", apart := false }
def FnExactOddParitySaid : Prop := fnExactOddParityRow.holds Try.pinned (OpenSpec.ofChange fnExactOddParitySpec)

/-- ITS FALSE NEIGHBOUR: 'it returns false'. Refute it at one input. -/
def fnExactOddParityWrong : ChangeSpec := { name := "fnExactOddParity", fn := fun _ => fun
  | [d] => { results := [.lit (.bool false)], args := [d] }
  | _ => none }
def FnExactOddParityWrongFalsely : Prop := fnExactOddParityRow.holds Try.pinned (OpenSpec.ofChange fnExactOddParityWrong)

/-- 'laws.FnExactVariant': WHATEVER THE INPUT: true; the input reads as it did. -/
def fnExactVariantSpec : ChangeSpec := { name := "fnExactVariant", fn := fun _ => fun
  | [d1, d2] => { results := [.lit (.bool true)], args := [d1, d2] }
  | _ => none }
def fnExactVariantRow : OpenClaim := { program := "ytbjlpdfhjapbkaa", sum := "4cee29e0870679d3c0577de872220f052c1ffc70a23c2816ccf9773affbf1469", func := "loop.example/s01728/laws.FnExactVariant", spec := "fnExactVariant", apart := false }
def FnExactVariantSaid : Prop := fnExactVariantRow.holds Try.pinned (OpenSpec.ofChange fnExactVariantSpec)

/-- ITS FALSE NEIGHBOUR: 'it returns false'. Refute it at one input. -/
def fnExactVariantWrong : ChangeSpec := { name := "fnExactVariant", fn := fun _ => fun
  | [d1, d2] => { results := [.lit (.bool false)], args := [d1, d2] }
  | _ => none }
def FnExactVariantWrongFalsely : Prop := fnExactVariantRow.holds Try.pinned (OpenSpec.ofChange fnExactVariantWrong)

/- THE SECOND FORM. 'bulk': how many values and letters a reading holds, each counted each time it is reached (what is shared counts as often as it is met; a slice's spare places count too). A statement '..UptoSaid' is the law's where the arguments, and the package variables that the reading takes, are together of bulk at most 1048576: NARROWER than '..Said'. Prove '..Said' where nothing that the law and all that it calls make is longer than what came in: it says more and counts as full. Else prove '..UptoSaid'. A law counts once. -/
mutual
def uptoBulk {H : Type} : DataW H → Nat
  | .lit (.string bytes) => bytes.length + 1
  | .lit _ => 1
  | .nil => 1
  | .ptr d => uptoBulk d + 1
  | .slice elems spare => uptoBulkAll elems + uptoBulkAll spare + 1
  | .agg parts => uptoBulkAll parts + 1
  | .iface _ d => uptoBulk d + 1
  | .map entries => uptoBulkEntries entries + 1
  | .held _ => 1
def uptoBulkAll {H : Type} : List (DataW H) → Nat
  | [] => 0
  | d :: r => uptoBulk d + uptoBulkAll r
def uptoBulkEntries {H : Type} : List (Lit × DataW H) → Nat
  | [] => 0
  | x :: r => uptoBulkEntry x + uptoBulkEntries r
def uptoBulkEntry {H : Type} : Lit × DataW H → Nat
  | (.string bytes, d) => bytes.length + uptoBulk d + 1
  | (_, d) => uptoBulk d + 1
 end
def uptoSmall : (H : Type) → List (DataW H) → Bool := fun _ ds => decide (uptoBulkAll ds ≤ 1048576)
def OpenSpec.upto (s : _root_.Go.ChangeSpec) : _root_.Go.OpenSpec := { _root_.Go.OpenSpec.ofChange s with cond := some uptoSmall }

/-- 'laws.FnExactConstants', WHERE WHAT IT READS IS OF BULK AT MOST 1048576: true; the input reads as it did. -/
def fnExactConstantsUptoRow : OpenClaim := { program := "ytbjlpdfhjapbkaa", sum := "4cee29e0870679d3c0577de872220f052c1ffc70a23c2816ccf9773affbf1469", func := "loop.example/s01728/laws.FnExactConstants", spec := "fnExactConstants", apart := false, narrowed := true }
def FnExactConstantsUptoSaid : Prop := fnExactConstantsUptoRow.holds Try.pinned (OpenSpec.upto fnExactConstantsSpec)

/-- 'laws.FnExactOddParity', WHERE WHAT IT READS IS OF BULK AT MOST 1048576: true; the input reads as it did. -/
def fnExactOddParityUptoRow : OpenClaim := { program := "ytbjlpdfhjapbkaa", sum := "4cee29e0870679d3c0577de872220f052c1ffc70a23c2816ccf9773affbf1469", func := "loop.example/s01728/laws.FnExactOddParity", spec := "fnExactOddParity", apart := false, narrowed := true }
def FnExactOddParityUptoSaid : Prop := fnExactOddParityUptoRow.holds Try.pinned (OpenSpec.upto fnExactOddParitySpec)

/-- 'laws.FnExactVariant', WHERE WHAT IT READS IS OF BULK AT MOST 1048576: true; the input reads as it did. -/
def fnExactVariantUptoRow : OpenClaim := { program := "ytbjlpdfhjapbkaa", sum := "4cee29e0870679d3c0577de872220f052c1ffc70a23c2816ccf9773affbf1469", func := "loop.example/s01728/laws.FnExactVariant", spec := "fnExactVariant", apart := false, narrowed := true }
def FnExactVariantUptoSaid : Prop := fnExactVariantUptoRow.holds Try.pinned (OpenSpec.upto fnExactVariantSpec)

end Rows
end Go.Proofs.Ytbjlpdfhjapbkaa
