/- The contracts that the print of FnDukpt wants: impl.Des (8 bytes), and what Draw, DkeyP, IniP prove. -/
import Derived.Test.YtbjlpdfhjapbkaaDoorDraw
import Derived.Test.YtbjlpdfhjapbkaaDoorDkeyP
namespace Go.Proofs.YtbjlpdfhjapbkaaDoor.LDuk
open Go.RowKit Go.Proofs.YtbjlpdfhjapbkaaDoorW.PrintWords Go.Proofs.YtbjlpdfhjapbkaaDoorW.PrintLast Go.Proofs.YtbjlpdfhjapbkaaDoorW.PrintMore Go.Proofs.YtbjlpdfhjapbkaaDoor.D
set_option linter.unusedVariables false
def impl_Des.f (l0 l1 : List Int) (a2 : Bool) : Option (List Int) := LDes8.impl_Des.f l0 l1 a2
theorem impl_Des.calls (A0 : Option Addr) (c0 : Nat) (l0 : List Int) (A1 : Option Addr) (c1 : Nat) (l1 : List Int) (a2 : Bool) (r : List Int) (w : World) (hr0 : Kd.C (Kd.int .u8) w A0 l0.length l0) (hc0 : l0.length ≤ c0) (hr1 : Kd.C (Kd.int .u8) w A1 l1.length l1) (hc1 : l1.length ≤ c1) (h : impl_Des.f l0 l1 a2 = some r) (ht : Tab8 w) :
    Calls Tryd.prog 15 #[.slice A0 l0.length c0, .slice A1 l1.length c1, .bool a2] w fun e w' => ∃ v0_ : Value, e = .returned (v0_) ∧ Kd.R (Kd.int .u8) 38 w' w.heap.size (fun _ => True) v0_ r ∧ Below w.heap.size w w' := LDes8.impl_Des.calls A0 c0 l0 A1 c1 l1 a2 r w hr0 hc0 hr1 hc1 h ht.t
end Go.Proofs.YtbjlpdfhjapbkaaDoor.LDuk
