/- The law FnExactConstants returns true: every exported constant of the program is the document's. No condition: it takes no argument. -/
import Derived.Test.YtbjlpdfhjapbkaaPFnExactConstantsx1
namespace Go.Proofs.Ytbjlpdfhjapbkaa.Pure
open Go.RowKit Go.Proofs.Ytbjlpdfhjapbkaa.PFnExactConstants Go.Proofs.YtbjlpdfhjapbkaaW.PrintWords Go.Proofs.YtbjlpdfhjapbkaaW.PrintLast

/-- YOURS: laws_FnExactConstants.f  = some true
What it reaches (each with k first where it has rounds; `.mono`: more rounds tell the same; `.l0`, ..: its loops, with `.mono_l`): laws_FnExactConstants.f -/
theorem FnExactConstants : laws_FnExactConstants.Pure := by
  show laws_FnExactConstants.f = some true
  rfl

end Go.Proofs.Ytbjlpdfhjapbkaa.Pure
